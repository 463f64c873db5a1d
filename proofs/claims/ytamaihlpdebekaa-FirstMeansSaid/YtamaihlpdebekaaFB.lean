/- slices.IndexFunc, ContainsFunc at this program's types: printed by wip/gen/first_lib.py (mine). -/
import Derived.Test.YtamaihlpdebekaaWords
namespace Go.Proofs.Ytamaihlpdebekaa
open Go.RowKit
set_option linter.unusedVariables false
set_option linter.unusedSimpArgs false

/-- The first place from k on, of n, at which p holds; -1. -/
def findIx (p : Nat → Bool) : Nat → Nat → Int
  | _, 0 => -1
  | k, n + 1 => if p k then k else findIx p (k + 1) n
def anyIx (p : Nat → Bool) : Nat → Nat → Bool
  | _, 0 => false
  | k, n + 1 => p k || anyIx p (k + 1) n
theorem anyIx_find (p : Nat → Bool) : ∀ n k, anyIx p k n = decide (0 ≤ findIx p k n) := by
  intro n
  induction n with
  | zero => intro k; rfl
  | succ n ih =>
    intro k
    unfold anyIx findIx
    cases p k
    · simpa using ih (k + 1)
    · simp
theorem anyIx_list {T : Type} (q : T → Bool) (xs : List T) (p : Nat → Bool) (k : Nat) (h : ∀ i (hi : i < xs.length), p (k + i) = q xs[i]) : anyIx p k xs.length = xs.any q := by
  induction xs generalizing k with
  | nil => rfl
  | cons x xs ih =>
    have h0 := h 0 (by simp)
    simp only [Nat.add_zero, List.getElem_cons_zero] at h0
    rw [List.length_cons, anyIx, List.any_cons, h0]
    rw [ih (k + 1) (fun i hi => by have := h (i + 1) (by simpa using hi); rw [show k + 1 + i = k + (i + 1) by omega]; simpa using this)]
theorem findIx_list {T : Type} (q : T → Bool) (xs : List T) (p : Nat → Bool) (k : Nat) (h : ∀ i (hi : i < xs.length), p (k + i) = q xs[i]) :
    (xs.find? q = none ∧ findIx p k xs.length = -1) ∨ ∃ j x, j < xs.length ∧ findIx p k xs.length = ((k + j : Nat) : Int) ∧ xs[j]? = some x ∧ xs.find? q = some x := by
  induction xs generalizing k with
  | nil => exact .inl ⟨rfl, rfl⟩
  | cons x xs ih =>
    have h0 := h 0 (by simp)
    simp only [Nat.add_zero, List.getElem_cons_zero] at h0
    simp only [List.length_cons, findIx, List.find?_cons, h0]
    cases hq : q x with
    | true => exact .inr ⟨0, x, by omega, by simp, by simp, rfl⟩
    | false =>
      rcases ih (k + 1) (fun i hi => by have := h (i + 1) (by simpa using hi); rw [show k + 1 + i = k + (i + 1) by omega]; simpa using this) with ⟨h1, h2⟩ | ⟨j, y, hj, h1, h2, h3⟩
      · exact .inl ⟨h1, by simpa using h2⟩
      · exact .inr ⟨j + 1, y, by omega, by simpa [Nat.add_assoc, Nat.add_comm 1] using h1, by simpa using h2, h3⟩


set_option maxHeartbeats 400000 in
theorem ixRng (A : Option Addr) (n c : Nat) (p : Nat → Bool) (g : FuncId) (fs : Array Value) (w : World) (hn : n ≤ maxLen)
    (eg : ∀ args w, (callFunc g args).run Try.prog w = .ok (.enter g args) w)
    (hel : ∀ i, i < n → ∃ a u0 u1 u2, A = some a ∧ a.block < w.heap.size ∧ w.cell? (a.add (i * 3)) = some u0 ∧ w.cell? ⟨(a.add (i * 3)).block, (a.add (i * 3)).off + 1, none⟩ = some u1 ∧ w.cell? ⟨(a.add (i * 3)).block, (a.add (i * 3)).off + 2, none⟩ = some u2 ∧
      ∀ W, Below w.heap.size w W → Calls Try.prog g (#[.agg #[u0, u1, u2]] ++ fs) W fun e W' => e = .returned (.bool (p i)) ∧ Below W.heap.size W W') :
    Calls Try.prog 49 #[.slice A n c, .func (.func g) #[] fs] w fun e w' => e = .returned (.int .i64 (findIx p 0 n)) ∧ Below w.heap.size w w' := by
  unfold maxLen at hn
  go_enter Try.func49, Try.ntmps49
  go_wp2
  go_loopw [4, 5, 8, 9] (fun u4 u5 j u9 wr => ∃ k : Nat, j = .int .i64 k ∧ k ≤ n ∧ Aside (findIx p 0 n = findIx p k (n - k)) ∧ Below w.heap.size w wr) (fun u4 u5 j u9 wr => n - (intOf j).toNat)
  case atStart => exact ⟨0, rfl, Nat.zero_le _, ⟨rfl⟩, Below.refl _ _⟩
  case round =>
    obtain ⟨k, rfl, hk, HE, hb⟩ := hrel
    by_cases hlt : k < n
    · obtain ⟨a, u0, u1, u2, rfl, hab, h0, h1, h2, hf⟩ := hel k hlt
      have hc := hf wr hb
      have g0 : wr.cell? (a.add (k * 3)) = some u0 := (hb.cell (by first | exact hab | (rw [block_of_add]; exact hab))).trans h0
      have g1 : wr.cell? ⟨(a.add (k * 3)).block, (a.add (k * 3)).off + 1, none⟩ = some u1 := (hb.cell (by first | exact hab | (rw [block_of_add]; exact hab))).trans h1
      have g2 : wr.cell? ⟨(a.add (k * 3)).block, (a.add (k * 3)).off + 2, none⟩ = some u2 := (hb.cell (by first | exact hab | (rw [block_of_add]; exact hab))).trans h2
      clear hel hf h0 h1 h2
      go_wp2_with fail
      refine hc.mono ?_
      rintro e w' ⟨rfl, hb'⟩
      have HB : Below w.heap.size w w' := hb.trans (hb'.mono hb.size)
      clear hb hb'
      by_cases hp : p k = true
      · have HF : Aside (findIx p 0 n = (k : Int)) := ⟨by rw [HE.out, show n - k = (n - k - 1) + 1 by omega, findIx, if_pos hp]⟩
        clear HE
        go_wp2
        go_ret
        exact ⟨by rw [HF.out]; rfl, HB⟩
      · have hp' : p k = false := by simpa using hp
        have HX : Aside (findIx p 0 n = findIx p (k + 1) (n - (k + 1))) := ⟨by rw [HE.out, show n - k = (n - (k + 1)) + 1 by omega, findIx, if_neg hp]⟩
        clear HE hp
        go_wp2
        go_roundw
        case rel => exact ⟨k + 1, by go_num, by omega, HX, HB⟩
        case measure => simp [intOf]; omega
    · have hk' : k = n := by omega
      subst hk'
      have HF : Aside (findIx p 0 k = -1) := ⟨by rw [HE.out, Nat.sub_self]; rfl⟩
      clear HE hel
      go_wp2
      go_ret
      exact ⟨by rw [HF.out]; rfl, hb⟩


set_option maxHeartbeats 400000 in
theorem anyRng (A : Option Addr) (n c : Nat) (p : Nat → Bool) (g : FuncId) (fs : Array Value) (w : World) (hn : n ≤ maxLen)
    (eg : ∀ args w, (callFunc g args).run Try.prog w = .ok (.enter g args) w)
    (hel : ∀ i, i < n → ∃ a u0 u1 u2, A = some a ∧ a.block < w.heap.size ∧ w.cell? (a.add (i * 3)) = some u0 ∧ w.cell? ⟨(a.add (i * 3)).block, (a.add (i * 3)).off + 1, none⟩ = some u1 ∧ w.cell? ⟨(a.add (i * 3)).block, (a.add (i * 3)).off + 2, none⟩ = some u2 ∧
      ∀ W, Below w.heap.size w W → Calls Try.prog g (#[.agg #[u0, u1, u2]] ++ fs) W fun e W' => e = .returned (.bool (p i)) ∧ Below W.heap.size W W') :
    Calls Try.prog 36 #[.slice A n c, .func (.func g) #[] fs] w fun e w' => e = .returned (.bool (anyIx p 0 n)) ∧ Below w.heap.size w w' := by
  have hc := ixRng A n c p g fs w hn eg hel
  clear hel
  have hfin : anyIx p 0 n = decide (0 ≤ findIx p 0 n) := anyIx_find p n 0
  have HF := Aside.mk hfin
  clear hfin
  go_enter Try.func36, Try.ntmps36
  go_wp2_with fail
  refine hc.mono ?_
  rintro e w' ⟨rfl, hb⟩
  go_wp2
  go_ret
  exact ⟨by rw [HF.out]; rfl, hb⟩


set_option maxHeartbeats 400000 in
theorem ixSub (A : Option Addr) (n c : Nat) (p : Nat → Bool) (g : FuncId) (fs : Array Value) (w : World) (hn : n ≤ maxLen)
    (eg : ∀ args w, (callFunc g args).run Try.prog w = .ok (.enter g args) w)
    (hel : ∀ i, i < n → ∃ a u0 u1 u2, A = some a ∧ a.block < w.heap.size ∧ w.cell? (a.add (i * 3)) = some u0 ∧ w.cell? ⟨(a.add (i * 3)).block, (a.add (i * 3)).off + 1, none⟩ = some u1 ∧ w.cell? ⟨(a.add (i * 3)).block, (a.add (i * 3)).off + 2, none⟩ = some u2 ∧
      ∀ W, Below w.heap.size w W → Calls Try.prog g (#[.agg #[u0, u1, u2]] ++ fs) W fun e W' => e = .returned (.bool (p i)) ∧ Below W.heap.size W W') :
    Calls Try.prog 53 #[.slice A n c, .func (.func g) #[] fs] w fun e w' => e = .returned (.int .i64 (findIx p 0 n)) ∧ Below w.heap.size w w' := by
  unfold maxLen at hn
  go_enter Try.func53, Try.ntmps53
  go_wp2
  go_loopw [4, 5, 8, 9] (fun u4 u5 j u9 wr => ∃ k : Nat, j = .int .i64 k ∧ k ≤ n ∧ Aside (findIx p 0 n = findIx p k (n - k)) ∧ Below w.heap.size w wr) (fun u4 u5 j u9 wr => n - (intOf j).toNat)
  case atStart => exact ⟨0, rfl, Nat.zero_le _, ⟨rfl⟩, Below.refl _ _⟩
  case round =>
    obtain ⟨k, rfl, hk, HE, hb⟩ := hrel
    by_cases hlt : k < n
    · obtain ⟨a, u0, u1, u2, rfl, hab, h0, h1, h2, hf⟩ := hel k hlt
      have hc := hf wr hb
      have g0 : wr.cell? (a.add (k * 3)) = some u0 := (hb.cell (by first | exact hab | (rw [block_of_add]; exact hab))).trans h0
      have g1 : wr.cell? ⟨(a.add (k * 3)).block, (a.add (k * 3)).off + 1, none⟩ = some u1 := (hb.cell (by first | exact hab | (rw [block_of_add]; exact hab))).trans h1
      have g2 : wr.cell? ⟨(a.add (k * 3)).block, (a.add (k * 3)).off + 2, none⟩ = some u2 := (hb.cell (by first | exact hab | (rw [block_of_add]; exact hab))).trans h2
      clear hel hf h0 h1 h2
      go_wp2_with fail
      refine hc.mono ?_
      rintro e w' ⟨rfl, hb'⟩
      have HB : Below w.heap.size w w' := hb.trans (hb'.mono hb.size)
      clear hb hb'
      by_cases hp : p k = true
      · have HF : Aside (findIx p 0 n = (k : Int)) := ⟨by rw [HE.out, show n - k = (n - k - 1) + 1 by omega, findIx, if_pos hp]⟩
        clear HE
        go_wp2
        go_ret
        exact ⟨by rw [HF.out]; rfl, HB⟩
      · have hp' : p k = false := by simpa using hp
        have HX : Aside (findIx p 0 n = findIx p (k + 1) (n - (k + 1))) := ⟨by rw [HE.out, show n - k = (n - (k + 1)) + 1 by omega, findIx, if_neg hp]⟩
        clear HE hp
        go_wp2
        go_roundw
        case rel => exact ⟨k + 1, by go_num, by omega, HX, HB⟩
        case measure => simp [intOf]; omega
    · have hk' : k = n := by omega
      subst hk'
      have HF : Aside (findIx p 0 k = -1) := ⟨by rw [HE.out, Nat.sub_self]; rfl⟩
      clear HE hel
      go_wp2
      go_ret
      exact ⟨by rw [HF.out]; rfl, hb⟩


set_option maxHeartbeats 400000 in
theorem anySub (A : Option Addr) (n c : Nat) (p : Nat → Bool) (g : FuncId) (fs : Array Value) (w : World) (hn : n ≤ maxLen)
    (eg : ∀ args w, (callFunc g args).run Try.prog w = .ok (.enter g args) w)
    (hel : ∀ i, i < n → ∃ a u0 u1 u2, A = some a ∧ a.block < w.heap.size ∧ w.cell? (a.add (i * 3)) = some u0 ∧ w.cell? ⟨(a.add (i * 3)).block, (a.add (i * 3)).off + 1, none⟩ = some u1 ∧ w.cell? ⟨(a.add (i * 3)).block, (a.add (i * 3)).off + 2, none⟩ = some u2 ∧
      ∀ W, Below w.heap.size w W → Calls Try.prog g (#[.agg #[u0, u1, u2]] ++ fs) W fun e W' => e = .returned (.bool (p i)) ∧ Below W.heap.size W W') :
    Calls Try.prog 45 #[.slice A n c, .func (.func g) #[] fs] w fun e w' => e = .returned (.bool (anyIx p 0 n)) ∧ Below w.heap.size w w' := by
  have hc := ixSub A n c p g fs w hn eg hel
  clear hel
  have hfin : anyIx p 0 n = decide (0 ≤ findIx p 0 n) := anyIx_find p n 0
  have HF := Aside.mk hfin
  clear hfin
  go_enter Try.func45, Try.ntmps45
  go_wp2_with fail
  refine hc.mono ?_
  rintro e w' ⟨rfl, hb⟩
  go_wp2
  go_ret
  exact ⟨by rw [HF.out]; rfl, hb⟩


set_option maxHeartbeats 400000 in
theorem ixAttr (A : Option Addr) (n c : Nat) (p : Nat → Bool) (g : FuncId) (fs : Array Value) (w : World) (hn : n ≤ maxLen)
    (eg : ∀ args w, (callFunc g args).run Try.prog w = .ok (.enter g args) w)
    (hel : ∀ i, i < n → ∃ a u0 u1 u2 u3, A = some a ∧ a.block < w.heap.size ∧ w.cell? (a.add (i * 4)) = some u0 ∧ w.cell? ⟨(a.add (i * 4)).block, (a.add (i * 4)).off + 1, none⟩ = some u1 ∧ w.cell? ⟨(a.add (i * 4)).block, (a.add (i * 4)).off + 2, none⟩ = some u2 ∧ w.cell? ⟨(a.add (i * 4)).block, (a.add (i * 4)).off + 3, none⟩ = some u3 ∧
      ∀ W, Below w.heap.size w W → Calls Try.prog g (#[.agg #[u0, u1, u2, u3]] ++ fs) W fun e W' => e = .returned (.bool (p i)) ∧ Below W.heap.size W W') :
    Calls Try.prog 51 #[.slice A n c, .func (.func g) #[] fs] w fun e w' => e = .returned (.int .i64 (findIx p 0 n)) ∧ Below w.heap.size w w' := by
  unfold maxLen at hn
  go_enter Try.func51, Try.ntmps51
  go_wp2
  go_loopw [4, 5, 8, 9] (fun u4 u5 j u9 wr => ∃ k : Nat, j = .int .i64 k ∧ k ≤ n ∧ Aside (findIx p 0 n = findIx p k (n - k)) ∧ Below w.heap.size w wr) (fun u4 u5 j u9 wr => n - (intOf j).toNat)
  case atStart => exact ⟨0, rfl, Nat.zero_le _, ⟨rfl⟩, Below.refl _ _⟩
  case round =>
    obtain ⟨k, rfl, hk, HE, hb⟩ := hrel
    by_cases hlt : k < n
    · obtain ⟨a, u0, u1, u2, u3, rfl, hab, h0, h1, h2, h3, hf⟩ := hel k hlt
      have hc := hf wr hb
      have g0 : wr.cell? (a.add (k * 4)) = some u0 := (hb.cell (by first | exact hab | (rw [block_of_add]; exact hab))).trans h0
      have g1 : wr.cell? ⟨(a.add (k * 4)).block, (a.add (k * 4)).off + 1, none⟩ = some u1 := (hb.cell (by first | exact hab | (rw [block_of_add]; exact hab))).trans h1
      have g2 : wr.cell? ⟨(a.add (k * 4)).block, (a.add (k * 4)).off + 2, none⟩ = some u2 := (hb.cell (by first | exact hab | (rw [block_of_add]; exact hab))).trans h2
      have g3 : wr.cell? ⟨(a.add (k * 4)).block, (a.add (k * 4)).off + 3, none⟩ = some u3 := (hb.cell (by first | exact hab | (rw [block_of_add]; exact hab))).trans h3
      clear hel hf h0 h1 h2 h3
      go_wp2_with fail
      refine hc.mono ?_
      rintro e w' ⟨rfl, hb'⟩
      have HB : Below w.heap.size w w' := hb.trans (hb'.mono hb.size)
      clear hb hb'
      by_cases hp : p k = true
      · have HF : Aside (findIx p 0 n = (k : Int)) := ⟨by rw [HE.out, show n - k = (n - k - 1) + 1 by omega, findIx, if_pos hp]⟩
        clear HE
        go_wp2
        go_ret
        exact ⟨by rw [HF.out]; rfl, HB⟩
      · have hp' : p k = false := by simpa using hp
        have HX : Aside (findIx p 0 n = findIx p (k + 1) (n - (k + 1))) := ⟨by rw [HE.out, show n - k = (n - (k + 1)) + 1 by omega, findIx, if_neg hp]⟩
        clear HE hp
        go_wp2
        go_roundw
        case rel => exact ⟨k + 1, by go_num, by omega, HX, HB⟩
        case measure => simp [intOf]; omega
    · have hk' : k = n := by omega
      subst hk'
      have HF : Aside (findIx p 0 k = -1) := ⟨by rw [HE.out, Nat.sub_self]; rfl⟩
      clear HE hel
      go_wp2
      go_ret
      exact ⟨by rw [HF.out]; rfl, hb⟩

end Go.Proofs.Ytamaihlpdebekaa
