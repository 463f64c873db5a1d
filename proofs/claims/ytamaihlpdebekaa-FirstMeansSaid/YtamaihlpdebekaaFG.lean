/- first: the reader: take, count, two, four. -/
import Derived.Test.YtamaihlpdebekaaFF
namespace Go.Proofs.Ytamaihlpdebekaa
open Go.RowKit
set_option linter.unusedVariables false
set_option linter.unusedSimpArgs false

/-- What is left, and the error. -/
abbrev RSt := List UInt8 × Int
def takeR (s : RSt) (n : Nat) : List UInt8 × RSt :=
  if s.2 = 0 then (if s.1.length < n then ([], (s.1, 2)) else (s.1.take n, (s.1.drop n, 0))) else ([], s)

/-- The reader in memory: block g, of type ty. -/
def RdrAt (ty : TypeId) (w : World) (B g : Nat) (s : RSt) : Prop := ∃ v, Blk w g ty #[v, .int .i64 s.2] ∧ enU8.Sl w (fun k => k < B) v s.1 ∧ B ≤ g

theorem RdrAt.keep {ty : TypeId} {w w' : World} {B g : Nat} {s : RSt} {row : Option Nat} (h : RdrAt ty w B g s) (hg : w.grownBy w' row) (hr : ∀ k, row = some k → B ≤ k ∧ k ≠ g) : RdrAt ty w' B g s := by
  obtain ⟨v, hb, hs, hB⟩ := h
  have hlt := hb.lt
  refine ⟨v, hb.grown hg (fun e => (hr g e.symm).2 rfl), hs.move (fun k hk => hg.block k (by omega) (fun e => by have := (hr k e.symm).1; omega)) (fun k hk => hk), hB⟩
theorem RdrAt.lt {ty : TypeId} {w : World} {B g : Nat} {s : RSt} (h : RdrAt ty w B g s) : g < w.heap.size := by
  obtain ⟨v, hb, hs⟩ := h
  exact hb.lt
theorem RdrAt.le {ty : TypeId} {w : World} {B g : Nat} {s : RSt} (h : RdrAt ty w B g s) : B ≤ g := by
  obtain ⟨v, hb, hs, hB⟩ := h
  exact hB
theorem RdrAt.far {ty : TypeId} {w : World} {B g : Nat} {s : RSt} (h : RdrAt ty w B g s) {b j : Nat} (hb : B ≤ b ∧ b ≠ g) (u : Value) : RdrAt ty (w.setCell ⟨b, j, none⟩ u) B g s := by
  obtain ⟨v, hk, hs, hB⟩ := h
  exact ⟨v, hk.far (by simp; omega) u, hs.move (fun k hk => Below.heap_setCell w _ _ k (by simp; omega)) (fun k hk => hk), hB⟩
theorem RdrAt.alloc {ty : TypeId} {w : World} {B g : Nat} {s : RSt} (h : RdrAt ty w B g s) (o : Obj) : RdrAt ty (w.alloc o) B g s := h.keep (World.grownBy_alloc w o none) (fun k hk => by cases hk)

/-- The post of a reader's function that hands back bytes. -/
def TookPost (ty : TypeId) (w : World) (B g : Nat) (r : List UInt8 × RSt) (e : Ending) (w' : World) : Prop :=
  ∃ v, e = .returned v ∧ enU8.Sl w' (fun k => k < B) v r.1 ∧ RdrAt ty w' B g r.2 ∧ w.grownBy w' (some g)

theorem cell_grown {w w' : World} {g : Nat} (hg : w.grownBy w' (some g)) (b o : Nat) (hb : b < w.heap.size) (hne : b ≠ g) : w'.cell? ⟨b, o, none⟩ = w.cell? ⟨b, o, none⟩ :=
  World.cell?_of_block (w := w) (hg.block b hb (by simpa using hne))

theorem grown_set (w : World) (g j : Nat) (u : Value) : w.grownBy (w.setCell ⟨g, j, none⟩ u) (some g) :=
  ⟨rfl, rfl, rfl, by simp [World.setCell], fun k hk hne => Below.heap_setCell w _ u k (by simpa using hne)⟩

set_option maxHeartbeats 400000 in
theorem take46 (B g n : Nat) (s : RSt) (w : World) (h : RdrAt 58 w B g s) (hn : n ≤ maxLen) (hl : s.1.length ≤ maxLen) :
    Calls Try.prog 46 #[.pointer (some ⟨g, 0, none⟩), .int .i64 n] w (TookPost 58 w B g (takeR s n)) := by
  obtain ⟨R, hR⟩ : ∃ R, R = takeR s n := ⟨_, rfl⟩
  rw [← hR]
  have HR := Aside.mk hR
  clear hR
  unfold maxLen at hn hl
  obtain ⟨left, err⟩ := s
  obtain ⟨v, hb, hs, hBg⟩ := h
  obtain ⟨A, c, rfl, hlc⟩ := hs.form
  simp only at *
  have hc0 := hb.cell 0
  have hc1 := hb.cell 1
  have hf0 := hb.frozen 0
  have hf1 := hb.frozen 1
  have hgl := hb.lt
  simp only [List.getElem?_toArray, List.getElem?_cons_zero, List.getElem?_cons_succ] at hc0 hc1
  obtain ⟨m, hm⟩ : ∃ m, m = left.length := ⟨_, rfl⟩
  rw [← hm] at hc0 hlc hl hs hb
  by_cases h0 : err = 0
  · subst h0
    by_cases h1 : m < n
    · have HF : Aside (R = ([], (left, 2))) := ⟨by rw [HR.out]; simp [takeR, show left.length < n by omega]⟩
      clear HR hm
      go_enter Try.func46, Try.ntmps46
      go_wp2
      go_ret
      rw [HF.out]
      exact ⟨_, rfl, En.Sl.nil _ _ _ _ _, ⟨_, hb.set_ 1 _, hs.move (fun k hk => Below.heap_setCell w _ _ k (by simp; omega)) (fun k hk => hk), hBg⟩, grown_set w g 1 _⟩
    · have HF : Aside (R = (left.take n, (left.drop n, 0))) := ⟨by rw [HR.out]; simp [takeR, show ¬ left.length < n by omega]⟩
      have hs1 := hs.take n (by omega)
      have hs2 := hs.drop n (by omega)
      have hmv : ∀ u k, k < B → (w.setCell ⟨g, 0, none⟩ u).heap[k]? = w.heap[k]? := fun u k hk => Below.heap_setCell w _ _ k (by simp; omega)
      rw [show enU8.sz = 1 from rfl] at hs2
      clear HR hm
      by_cases hcn : c = n
      · subst hcn
        obtain rfl : m = c := by omega
        rw [if_pos rfl] at hs2
        go_enter Try.func46, Try.ntmps46
        go_wp2
        go_ret
        rw [HF.out]
        exact ⟨_, rfl, hs1.move (hmv _) (fun k hk => hk), ⟨_, hb.set_ 0 _, by simpa using hs2.move (hmv _) (fun k hk => hk), hBg⟩, grown_set w g 0 _⟩
      · rw [if_neg hcn, Nat.mul_one] at hs2
        go_enter Try.func46, Try.ntmps46
        go_wp2
        go_ret
        rw [HF.out]
        exact ⟨_, rfl, hs1.move (hmv _) (fun k hk => hk), ⟨_, hb.set_ 0 _, hs2.move (hmv _) (fun k hk => hk), hBg⟩, grown_set w g 0 _⟩
  · have HF : Aside (R = ([], (left, err))) := ⟨by rw [HR.out, takeR, if_neg h0]⟩
    have h0b : (err == 0) = false := by simpa using h0
    have h0c : (err != 0) = true := by simpa using h0
    clear HR hm
    go_enter Try.func46, Try.ntmps46
    go_wp2
    go_ret
    rw [HF.out]
    exact ⟨_, rfl, En.Sl.nil _ _ _ _ _, ⟨_, hb, hs, hBg⟩, World.grownBy.refl w _⟩

theorem takeR_len (s : RSt) (n : Nat) : (takeR s n).1.length ≤ n := by
  unfold takeR
  split <;> (try split) <;> simp <;> omega

def twoR (s : RSt) : Int × RSt := ((beN (takeR s 2).1 : Nat), (takeR s 2).2)

/-- The post of a reader's function that hands back a number. -/
def NumPost (ty : TypeId) (w : World) (B g : Nat) (r : Int × RSt) (e : Ending) (w' : World) : Prop :=
  e = .returned (.int .i64 r.1) ∧ RdrAt ty w' B g r.2 ∧ w.grownBy w' (some g)

set_option maxHeartbeats 400000 in
theorem two27 (B g : Nat) (s : RSt) (w : World) (h : RdrAt 58 w B g s) (hl : s.1.length ≤ maxLen) :
    Calls Try.prog 27 #[.pointer (some ⟨g, 0, none⟩)] w (NumPost 58 w B g (twoR s)) := by
  have ht := take46 B g 2 s w h (by unfold maxLen; omega) hl
  have hlen := takeR_len s 2
  unfold twoR
  generalize takeR s 2 = r at *
  obtain ⟨R, hR⟩ : ∃ R, R = ((beN r.1 : Nat) : Int) := ⟨_, rfl⟩
  rw [← hR]
  have HR := Aside.mk hR
  clear hR
  go_enter Try.func27, Try.ntmps27
  go_wp2_with fail
  refine ht.mono ?_
  rintro e w2 ⟨v, rfl, hs, hr, hg⟩
  obtain ⟨A, c, rfl, hlc⟩ := hs.form
  obtain ⟨bs, st⟩ := r
  simp only at *
  obtain ⟨m, hm⟩ : ∃ m, m = bs.length := ⟨_, rfl⟩
  rw [← hm] at hlen hlc hs ⊢
  have HM := Aside.mk hm
  clear hm ht
  go_wp2
  go_loop [2, 4, 8] (fun n u4 j => ∃ k : Nat, ∃ z : Nat, j = .int .i64 k ∧ k ≤ m ∧ n = .int .i64 z ∧ Aside (z = beN (bs.take k))) (fun n u4 j => m - (intOf j).toNat)
  case atStart => exact ⟨0, 0, rfl, Nat.zero_le _, rfl, ⟨rfl⟩⟩
  case round =>
    obtain ⟨k, z, rfl, hk, rfl, HZ⟩ := hrel
    by_cases hlt : k < m
    · have hlt' : k < bs.length := by rw [← HM.out]; exact hlt
      obtain ⟨a, rfl, hab, h0⟩ := slB_at hs k hlt'
      have hb0 : (bs.getD k 0).toNat < 256 := (bs.getD k 0).toNat_lt
      have HN : Aside (z * 256 + (bs.getD k 0).toNat = beN (bs.take (k + 1))) := ⟨by rw [take_snocB hlt', beN_snoc, HZ.out]⟩
      have hz : z < 256 := by
        have := beN_lt (bs.take k)
        rw [← HZ.out, List.length_take] at this
        have h1 : min k bs.length ≤ 1 := by omega
        have := Nat.pow_le_pow_right (show 0 < 256 by omega) h1
        omega
      generalize (bs.getD k 0).toNat = b at *
      clear HZ hs
      have HO := Aside.mk (or_i64 z b (by omega) hb0)
      rw [wrap64_id _ (by omega) (by omega), wrap64_id _ (by omega) (by omega)] at HO
      go_wp2
      go_round
      case rel => exact ⟨k + 1, z * 256 + b, by go_num, by omega, by rw [HO.out], HN⟩
      case measure => simp [intOf]; omega
    · obtain rfl : k = m := by omega
      have HF : Aside (R = (z : Int)) := ⟨by rw [HR.out, HZ.out, HM.out, List.take_length]⟩
      clear HR HZ hs
      go_wp2
      go_ret
      exact ⟨by rw [HF.out]; rfl, hr, hg⟩

def fourR (s : RSt) : Int × RSt :=
  ((if beN (takeR s 4).1 < 2147483648 then (beN (takeR s 4).1 : Int) else (beN (takeR s 4).1 : Int) - 4294967296), (takeR s 4).2)

set_option maxHeartbeats 400000 in
theorem four54 (B g : Nat) (s : RSt) (w : World) (h : RdrAt 58 w B g s) (hl : s.1.length ≤ maxLen) :
    Calls Try.prog 54 #[.pointer (some ⟨g, 0, none⟩)] w (NumPost 58 w B g (fourR s)) := by
  have ht := take46 B g 4 s w h (by unfold maxLen; omega) hl
  have hlen := takeR_len s 4
  unfold fourR
  generalize takeR s 4 = r at *
  obtain ⟨R, hR⟩ : ∃ R, R = (if beN r.1 < 2147483648 then (beN r.1 : Int) else (beN r.1 : Int) - 4294967296) := ⟨_, rfl⟩
  rw [← hR]
  have HR := Aside.mk hR
  clear hR
  go_enter Try.func54, Try.ntmps54
  go_wp2_with fail
  refine ht.mono ?_
  rintro e w2 ⟨v, rfl, hs, hr, hg⟩
  obtain ⟨A, c, rfl, hlc⟩ := hs.form
  obtain ⟨bs, st⟩ := r
  simp only at *
  obtain ⟨m, hm⟩ : ∃ m, m = bs.length := ⟨_, rfl⟩
  rw [← hm] at hlen hlc hs ⊢
  have HM := Aside.mk hm
  clear hm ht
  go_wp2
  go_loop [3, 5, 9] (fun n u4 j => ∃ k : Nat, ∃ z : Nat, j = .int .i64 k ∧ k ≤ m ∧ n = .int .u32 z ∧ Aside (z = beN (bs.take k))) (fun n u4 j => m - (intOf j).toNat)
  case atStart => exact ⟨0, 0, rfl, Nat.zero_le _, rfl, ⟨rfl⟩⟩
  case round =>
    obtain ⟨k, z, rfl, hk, rfl, HZ⟩ := hrel
    by_cases hlt : k < m
    · have hlt' : k < bs.length := by rw [← HM.out]; exact hlt
      obtain ⟨a, rfl, hab, h0⟩ := slB_at hs k hlt'
      have hb0 : (bs.getD k 0).toNat < 256 := (bs.getD k 0).toNat_lt
      have HN : Aside (z * 256 + (bs.getD k 0).toNat = beN (bs.take (k + 1))) := ⟨by rw [take_snocB hlt', beN_snoc, HZ.out]⟩
      have hz : z < 16777216 := by
        have := beN_lt (bs.take k)
        rw [← HZ.out, List.length_take] at this
        have h1 : min k bs.length ≤ 3 := by omega
        have := Nat.pow_le_pow_right (show 0 < 256 by omega) h1
        omega
      generalize (bs.getD k 0).toNat = b at *
      clear HZ hs
      have HO := Aside.mk (or_u32 z b (by omega) hb0)
      rw [Int.emod_eq_of_lt (by omega) (by omega), Int.emod_eq_of_lt (by omega) (by omega)] at HO
      go_wp2
      go_round
      case rel => exact ⟨k + 1, z * 256 + b, by go_num, by omega, by rw [HO.out], HN⟩
      case measure => simp [intOf]; omega
    · obtain rfl : k = m := by omega
      have HF : Aside (R = (if z < 2147483648 then (z : Int) else (z : Int) - 4294967296)) := ⟨by rw [HR.out, HZ.out, HM.out, List.take_length]⟩
      have hz : z < 4294967296 := by
        have := beN_lt (bs.take k)
        rw [← HZ.out, List.length_take] at this
        have h1 : min k bs.length ≤ 4 := by omega
        have := Nat.pow_le_pow_right (show 0 < 256 by omega) h1
        omega
      clear HR HZ hs
      go_wp2
      go_ret
      exact ⟨ret_int (by show wrap64 (wrap32 (z : Int)) = R; rw [HF.out]; unfold wrap64 wrap32; split <;> omega), hr, hg⟩

def headN : List UInt8 → Nat | [] => 0 | c :: _ => c.toNat
def countR (s : RSt) (most : Int) : Int × RSt :=
  if most < headN (takeR s 1).1 then (0, ((takeR s 1).2.1, 4)) else (headN (takeR s 1).1, (takeR s 1).2)

set_option maxHeartbeats 400000 in
theorem count26 (B g : Nat) (s : RSt) (most : Int) (w : World) (h : RdrAt 58 w B g s) (hl : s.1.length ≤ maxLen) :
    Calls Try.prog 26 #[.pointer (some ⟨g, 0, none⟩), .int .i64 most] w (NumPost 58 w B g (countR s most)) := by
  have ht := take46 B g 1 s w h (by unfold maxLen; omega) hl
  have hlen := takeR_len s 1
  obtain ⟨R, hR⟩ : ∃ R, R = countR s most := ⟨_, rfl⟩
  rw [← hR]
  have HR := Aside.mk hR
  unfold countR at HR
  clear hR
  generalize takeR s 1 = r at *
  go_enter Try.func26, Try.ntmps26
  go_wp2_with fail
  refine ht.mono ?_
  rintro e w2 ⟨v, rfl, hs, hr, hg⟩
  obtain ⟨A, c, rfl, hlc⟩ := hs.form
  obtain ⟨bs, left, err⟩ := r
  simp only at *
  have hz : ∃ z : Nat, z < 256 ∧ headN bs = z ∧ (bs.length = 0 → z = 0) ∧ (0 < bs.length → (bs.getD 0 0).toNat = z) := by
    rcases bs with _ | ⟨b, bs⟩
    · exact ⟨0, by omega, rfl, fun _ => rfl, fun h => by simp at h⟩
    · exact ⟨b.toNat, b.toNat_lt, rfl, fun h => by simp at h, fun _ => by simp⟩
  obtain ⟨z, hz, hz1, hz2, hz3⟩ := hz
  rw [hz1] at HR
  obtain ⟨m, hm⟩ : ∃ m, m = bs.length := ⟨_, rfl⟩
  rw [← hm] at hlen hlc hs hz2 hz3 ⊢
  have HM := Aside.mk hm
  clear hm ht hz1
  have HZ2 := Aside.mk hz2
  have HZ3 := Aside.mk hz3
  clear hz2 hz3
  obtain ⟨vr, hbr, hsr, hBg⟩ := id hr
  have hc1 := hbr.cell 1
  have hf1 := hbr.frozen 1
  simp only [List.getElem?_toArray, List.getElem?_cons_zero, List.getElem?_cons_succ] at hc1
  go_wp2
  go_loop [4, 6, 10] (fun n u6 j => ∃ k : Nat, ∃ y : Nat, j = .int .i64 k ∧ k ≤ m ∧ n = .int .i64 y ∧ y < 256 ∧ Aside (k = m → y = z)) (fun n u6 j => m - (intOf j).toNat)
  case atStart => exact ⟨0, 0, rfl, Nat.zero_le _, rfl, by omega, ⟨fun h => by rw [HZ2.out h.symm]⟩⟩
  case round =>
    obtain ⟨k, y, rfl, hk, rfl, hy, HY⟩ := hrel
    by_cases hlt : k < m
    · obtain rfl : k = 0 := by omega
      obtain ⟨a, rfl, hab, h0⟩ := slB_at hs 0 (by rw [← HM.out]; exact hlt)
      rw [HZ3.out hlt, show a.add 0 = a from if_pos rfl] at h0
      clear hs
      go_wp2
      go_round
      case rel => exact ⟨1, z, by go_num, by omega, rfl, hz, ⟨fun _ => rfl⟩⟩
      case measure => simp [intOf]; omega
    · obtain rfl : k = m := by omega
      obtain rfl : y = z := HY.out rfl
      by_cases hgt : most < y
      · have HF : Aside (R = (0, (left, 4))) := ⟨by rw [HR.out, if_pos hgt]⟩
        clear HR HY HZ2 HZ3 hs
        go_wp2
        go_ret
        rw [HF.out]
        refine ⟨rfl, ⟨vr, hbr.set_ 1 _, hsr.move (fun k hk => Below.heap_setCell w2 _ _ k (by simp; omega)) (fun k hk => hk), hBg⟩, hg.trans (grown_set w2 g 1 _)⟩
      · have HF : Aside (R = ((y : Int), (left, err))) := ⟨by rw [HR.out, if_neg hgt]⟩
        clear HR HY HZ2 HZ3 hs
        go_wp2
        go_ret
        rw [HF.out]
        exact ⟨rfl, hr, hg⟩
end Go.Proofs.Ytamaihlpdebekaa
