/- first: slices.Contains at ints; Right. -/
import Derived.Test.YtamaihlpdebekaaFA
import Derived.Test.YtamaihlpdebekaaFB
namespace Go.Proofs.Ytamaihlpdebekaa
open Go.RowKit
set_option linter.unusedVariables false
set_option linter.unusedSimpArgs false

theorem rdI_at {w : World} {A : Option Addr} {n c : Nat} {xs : List Int} (h : enI64.Rd w (.slice A n c) xs) (i : Nat) (hi : i < xs.length) :
    ∃ a, A = some a ∧ a.block < w.heap.size ∧ w.cell? (a.add i) = some (.int .i64 (xs.getD i 0)) := by
  obtain ⟨a, hA, ha, hc⟩ := rd_at1 (f := fun n => Value.int .i64 n) h i hi
  exact ⟨a, hA, ha, by rw [hc]; simp [hi]⟩

set_option maxHeartbeats 400000 in
theorem index50 (v : Value) (xs : List Int) (x : Int) (w : World) (h : enI64.Rd w v xs) (hn : xs.length ≤ maxLen) :
    Calls Try.prog 50 #[v, .int .i64 x] w fun e w' => e = .returned (.int .i64 (findIx (fun i => x == xs.getD i 0) 0 xs.length)) ∧ w = w' := by
  obtain ⟨A, c, rfl, hl⟩ := h.form
  unfold maxLen at hn
  obtain ⟨n, hN⟩ : ∃ n, n = xs.length := ⟨_, rfl⟩
  have hc := fun i hi => rdI_at h i hi
  clear h
  rw [← hN] at hc hn hl ⊢
  obtain ⟨p, hp⟩ : ∃ p : Nat → Bool, p = fun i => x == xs.getD i 0 := ⟨_, rfl⟩
  have HP := Aside.mk hp
  rw [← hp]
  clear hp hN
  go_enter Try.func50, Try.ntmps50
  go_wp2
  go_loop [4, 5, 8, 9] (fun u4 u5 j u9 => ∃ k : Nat, j = .int .i64 k ∧ k ≤ n ∧ Aside (findIx p 0 n = findIx p k (n - k))) (fun u4 u5 j u9 => n - (intOf j).toNat)
  case atStart => exact ⟨0, rfl, Nat.zero_le _, ⟨rfl⟩⟩
  case round =>
    obtain ⟨k, rfl, hk, HE⟩ := hrel
    by_cases hlt : k < n
    · obtain ⟨a, rfl, hab, h0⟩ := hc k hlt
      clear hc
      by_cases hpk : x = xs.getD k 0
      · have HF : Aside (findIx p 0 n = (k : Int)) := ⟨by rw [HE.out, show n - k = (n - k - 1) + 1 by omega, findIx, if_pos (by rw [HP.out]; simpa using hpk)]⟩
        clear HE
        have hb : (x == xs.getD k 0) = true := by simpa using hpk
        clear hpk
        generalize xs.getD k 0 = y at *
        go_wp2
        go_ret
        exact ⟨by rw [HF.out]; rfl, rfl⟩
      · have HX : Aside (findIx p 0 n = findIx p (k + 1) (n - (k + 1))) := ⟨by rw [HE.out, show n - k = (n - (k + 1)) + 1 by omega, findIx, if_neg (by rw [HP.out]; simpa using hpk)]⟩
        clear HE
        have hb : (x == xs.getD k 0) = false := by simpa using hpk
        clear hpk
        generalize xs.getD k 0 = y at *
        go_wp2
        go_round
        case rel => exact ⟨k + 1, by go_num, by omega, HX⟩
        case measure => simp [intOf]; omega
    · have hk' : k = n := by omega
      subst hk'
      have HF : Aside (findIx p 0 k = -1) := ⟨by rw [HE.out, Nat.sub_self]; rfl⟩
      clear HE hc
      go_wp2
      go_ret
      exact ⟨by rw [HF.out]; rfl, rfl⟩

theorem anyIx_contains (xs : List Int) (x : Int) : anyIx (fun i => x == xs.getD i 0) 0 xs.length = xs.contains x := by
  rw [anyIx_list (fun y => x == y) xs _ 0 (fun i hi => by simp [hi]), List.contains_eq_any_beq]

set_option maxHeartbeats 400000 in
theorem contains38 (v : Value) (xs : List Int) (x : Int) (w : World) (h : enI64.Rd w v xs) (hn : xs.length ≤ maxLen) :
    Calls Try.prog 38 #[v, .int .i64 x] w fun e w' => e = .returned (.bool (xs.contains x)) ∧ w = w' := by
  have hc := index50 v xs x w h hn
  rw [← anyIx_contains, anyIx_find]
  generalize findIx (fun i => x == xs.getD i 0) 0 xs.length = q at *
  obtain ⟨A, c, rfl, hl⟩ := h.form
  clear h hl hn
  go_enter Try.func38, Try.ntmps38
  go_wp2_with fail
  refine hc.mono ?_
  rintro e w' ⟨rfl, rfl⟩
  go_wp2
  go_ret
  exact ⟨rfl, rfl⟩

structure FSub where
  id : Int
  from_ : Int
  ranges : List Rng
structure First where
  links : List Int
  subs : List FSub
def enSub : En FSub := (En.pair enI64 (En.pair enI64 (En.sl enRng))).iso fun s => (s.id, s.from_, s.ranges)
theorem enI64_rel {w : World} {S : Nat → Prop} {n : Int} {cs : List Value} (h : enI64.rel w S n cs) : cs = [.int .i64 n] := h
theorem enSub_open {w : World} {S : Nat → Prop} {s : FSub} {cs : List Value} (h : enSub.rel w S s cs) : ∃ v, cs = [.int .i64 s.id, .int .i64 s.from_, v] ∧ enRng.Sl w S v s.ranges := by
  obtain ⟨c1, d1, rfl, h1, c2, d2, rfl, h2, v, rfl, h3⟩ := h
  obtain rfl := enI64_rel h1
  obtain rfl := enI64_rel h2
  exact ⟨v, rfl, h3⟩
theorem enSub_make {w : World} {S : Nat → Prop} {s : FSub} {v : Value} (h : enRng.Sl w S v s.ranges) : enSub.rel w S s [.int .i64 s.id, .int .i64 s.from_, v] :=
  ⟨[.int .i64 s.id], [.int .i64 s.from_, v], rfl, rfl, [.int .i64 s.from_], [v], rfl, rfl, v, rfl, h⟩

def linksOk : Int → List Int → Bool
  | _, [] => true
  | last, n :: l => inB n (last + 1) 65535 && linksOk n l
def FSub.ok (links : List Int) (s : FSub) : Bool := decide (s.ranges.length ≤ 12) && !(s.ranges.any Rng.wrong) && links.contains s.from_
def subsOk (links : List Int) : Int → List FSub → Bool
  | _, [] => true
  | last, s :: l => inB s.id (last + 1) 65535 && s.ok links && subsOk links s.id l
def First.right (f : First) : Bool := linksOk 0 f.links && subsOk f.links 0 f.subs && decide (f.links.length ≤ 16) && decide (f.subs.length ≤ 64)

theorem rdRng_at {w : World} {A : Option Addr} {n c : Nat} {xs : List Rng} (h : enRng.Rd w (.slice A n c) xs) (i : Nat) (hi : i < xs.length) :
    ∃ a, A = some a ∧ a.block < w.heap.size ∧ w.cell? (a.add (i * 3)) = some (.string xs[i].name) ∧ w.cell? ⟨(a.add (i * 3)).block, (a.add (i * 3)).off + 1, none⟩ = some (.int .i64 xs[i].lo) ∧ w.cell? ⟨(a.add (i * 3)).block, (a.add (i * 3)).off + 2, none⟩ = some (.int .i64 xs[i].hi) := by
  obtain ⟨a, cs, hA, ha, hr, hc⟩ := h.get i hi
  obtain rfl : cs = xs[i].cells := hr
  exact ⟨a, hA, ha, cells3 hc⟩
theorem rdSub_at {w : World} {A : Option Addr} {n c : Nat} {xs : List FSub} (h : enSub.Rd w (.slice A n c) xs) (i : Nat) (hi : i < xs.length) :
    ∃ a v, A = some a ∧ a.block < w.heap.size ∧ enRng.Rd w v xs[i].ranges ∧ w.cell? (a.add (i * 3)) = some (.int .i64 xs[i].id) ∧ w.cell? ⟨(a.add (i * 3)).block, (a.add (i * 3)).off + 1, none⟩ = some (.int .i64 xs[i].from_) ∧ w.cell? ⟨(a.add (i * 3)).block, (a.add (i * 3)).off + 2, none⟩ = some v := by
  obtain ⟨a, cs, hA, ha, hr, hc⟩ := h.get i hi
  obtain ⟨v, rfl, hv⟩ := enSub_open hr
  exact ⟨a, v, hA, ha, hv, cells3 hc⟩

/-- slices.ContainsFunc(ranges, wrong). -/
theorem anyWrong (v : Value) (xs : List Rng) (w : World) (h : enRng.Rd w v xs) (hn : xs.length ≤ maxLen) :
    Calls Try.prog 36 #[v, .func (.func 37) #[] #[]] w fun e w' => e = .returned (.bool (xs.any Rng.wrong)) ∧ Below w.heap.size w w' := by
  obtain ⟨A, c, rfl, hl⟩ := h.form
  have z : Rng := ⟨⟨#[]⟩, 0, 0⟩
  have hb := anyRng A xs.length c (fun i => (xs.getD i z).wrong) 37 #[] w hn (enters Try.func37 (by kernel_rfl) rfl)
    (fun i hi => by
      obtain ⟨a, hA, ha, h0, h1, h2⟩ := rdRng_at h i hi
      rw [show xs.getD i z = xs[i] by simp [hi]]
      exact ⟨a, _, _, _, hA, ha, h0, h1, h2, fun W _ => wrong_any _ _ _ W⟩)
  rwa [anyIx_list Rng.wrong xs _ 0 (fun i hi => by simp [hi])] at hb
end Go.Proofs.Ytamaihlpdebekaa
