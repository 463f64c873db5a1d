/- rosetteref15: the scanner: Fail, Take, Num, Count, End; sign. -/
import Derived.Test.YtamaihlpdebekaaFH
namespace Go.Proofs.Ytamaihlpdebekaa
open Go.RowKit
set_option linter.unusedVariables false
set_option linter.unusedSimpArgs false

def failR (s : RSt) (e : Int) : RSt := if s.2 = 0 then (s.1, e) else s

/-- The post of a reader's function that hands back nothing. -/
def NonePost (ty : TypeId) (w : World) (B g : Nat) (r : RSt) (e : Ending) (w' : World) : Prop :=
  e = .returned (.tuple #[]) ∧ RdrAt ty w' B g r ∧ w.grownBy w' (some g)

set_option maxHeartbeats 400000 in
theorem fail48 (B g : Nat) (s : RSt) (x : Int) (w : World) (h : RdrAt 65 w B g s) :
    Calls Try.prog 48 #[.pointer (some ⟨g, 0, none⟩), .int .i64 x] w (NonePost 65 w B g (failR s x)) := by
  obtain ⟨left, err⟩ := s
  obtain ⟨v, hb, hs, hBg⟩ := h
  have hc1 := hb.cell 1
  have hf1 := hb.frozen 1
  simp only [List.getElem?_toArray, List.getElem?_cons_zero, List.getElem?_cons_succ] at hc1
  unfold failR
  by_cases h0 : err = 0
  · subst h0
    go_enter Try.func48, Try.ntmps48
    go_wp2
    go_end0
    exact ⟨rfl, ⟨_, hb.set_ 1 _, hs.move (fun k hk => Below.heap_setCell w _ _ k (by simp; omega)) (fun k hk => hk), hBg⟩, grown_set w g 1 _⟩
  · have HF : Aside (failR (left, err) x = (left, err)) := ⟨by simp [failR, h0]⟩
    have h0b : (err == 0) = false := by simpa using h0
    rw [if_neg h0]
    clear h0 HF
    go_enter Try.func48, Try.ntmps48
    go_wp2
    go_end0
    exact ⟨rfl, ⟨_, hb, hs, hBg⟩, World.grownBy.refl w _⟩

set_option maxHeartbeats 400000 in
theorem take32 (B g n : Nat) (s : RSt) (w : World) (h : RdrAt 65 w B g s) (hn : n ≤ maxLen) (hl : s.1.length ≤ maxLen) :
    Calls Try.prog 32 #[.pointer (some ⟨g, 0, none⟩), .int .i64 n] w (TookPost 65 w B g (takeR s n)) := by
  have hfl := fail48 B g s 2 w h
  obtain ⟨R, hR⟩ : ∃ R, R = takeR s n := ⟨_, rfl⟩
  rw [← hR]
  have HR := Aside.mk hR
  clear hR
  unfold maxLen at hn hl
  obtain ⟨left, err⟩ := s
  obtain ⟨v, hb, hs, hBg⟩ := h
  obtain ⟨A, c, rfl, hlc⟩ := hs.form
  simp only at *
  have hc0 := hb.cell 0
  have hc1 := hb.cell 1
  have hf0 := hb.frozen 0
  have hf1 := hb.frozen 1
  have hgl := hb.lt
  simp only [List.getElem?_toArray, List.getElem?_cons_zero, List.getElem?_cons_succ] at hc0 hc1
  obtain ⟨m, hm⟩ : ∃ m, m = left.length := ⟨_, rfl⟩
  rw [← hm] at hc0 hlc hl hs hb
  by_cases h0 : err = 0
  · subst h0
    by_cases h1 : m < n
    · have HF : Aside (R = ([], (left, 2))) := ⟨by rw [HR.out]; simp [takeR, show left.length < n by omega]⟩
      rw [show failR (left, 0) 2 = (left, 2) from rfl] at hfl
      clear HR hm
      go_enter Try.func32, Try.ntmps32
      go_wp2_with fail
      refine hfl.mono ?_
      rintro e w2 ⟨rfl, hr, hg⟩
      go_wp2
      go_ret
      rw [HF.out]
      exact ⟨_, rfl, En.Sl.nil _ _ _ _ _, hr, hg⟩
    · have HF : Aside (R = (left.take n, (left.drop n, 0))) := ⟨by rw [HR.out]; simp [takeR, show ¬ left.length < n by omega]⟩
      have hs1 := hs.take n (by omega)
      have hs2 := hs.drop n (by omega)
      have hmv : ∀ u k, k < B → (w.setCell ⟨g, 0, none⟩ u).heap[k]? = w.heap[k]? := fun u k hk => Below.heap_setCell w _ _ k (by simp; omega)
      rw [show enU8.sz = 1 from rfl] at hs2
      clear HR hm hfl
      by_cases hcn : c = n
      · subst hcn
        obtain rfl : m = c := by omega
        rw [if_pos rfl] at hs2
        go_enter Try.func32, Try.ntmps32
        go_wp2
        go_ret
        rw [HF.out]
        exact ⟨_, rfl, hs1.move (hmv _) (fun k hk => hk), ⟨_, hb.set_ 0 _, by simpa using hs2.move (hmv _) (fun k hk => hk), hBg⟩, grown_set w g 0 _⟩
      · rw [if_neg hcn, Nat.mul_one] at hs2
        go_enter Try.func32, Try.ntmps32
        go_wp2
        go_ret
        rw [HF.out]
        exact ⟨_, rfl, hs1.move (hmv _) (fun k hk => hk), ⟨_, hb.set_ 0 _, hs2.move (hmv _) (fun k hk => hk), hBg⟩, grown_set w g 0 _⟩
  · have HF : Aside (R = ([], (left, err))) := ⟨by rw [HR.out, takeR, if_neg h0]⟩
    rw [show failR (left, err) 2 = (left, err) from if_neg h0] at hfl
    have h0b : (err == 0) = false := by simpa using h0
    have h0c : (err != 0) = true := by simpa using h0
    clear HR hm h0
    go_enter Try.func32, Try.ntmps32
    go_wp2_with fail
    refine hfl.mono ?_
    rintro e w2 ⟨rfl, hr, hg⟩
    go_wp2
    go_ret
    rw [HF.out]
    exact ⟨_, rfl, En.Sl.nil _ _ _ _ _, hr, hg⟩

def numR (k : Nat) (s : RSt) : Int × RSt := ((beN (takeR s k).1 : Nat), (takeR s k).2)

set_option maxHeartbeats 400000 in
theorem num31 (B g k : Nat) (s : RSt) (w : World) (h : RdrAt 65 w B g s) (hl : s.1.length ≤ maxLen) (hk : k ≤ 4) :
    Calls Try.prog 31 #[.pointer (some ⟨g, 0, none⟩), .int .i64 k] w (NumPost 65 w B g (numR k s)) := by
  have ht := take32 B g k s w h (by unfold maxLen; omega) hl
  have hlen := Nat.le_trans (takeR_len s k) hk
  unfold numR
  clear hk
  generalize takeR s k = r at *
  obtain ⟨R, hR⟩ : ∃ R, R = ((beN r.1 : Nat) : Int) := ⟨_, rfl⟩
  rw [← hR]
  have HR := Aside.mk hR
  clear hR
  go_enter Try.func31, Try.ntmps31
  go_wp2_with fail
  refine ht.mono ?_
  rintro e w2 ⟨v, rfl, hs, hr, hg⟩
  obtain ⟨A, c, rfl, hlc⟩ := hs.form
  obtain ⟨bs, st⟩ := r
  simp only at *
  obtain ⟨m, hm⟩ : ∃ m, m = bs.length := ⟨_, rfl⟩
  rw [← hm] at hlen hlc hs ⊢
  have HM := Aside.mk hm
  clear hm ht
  go_wp2
  go_loop [6, 7] (fun n j => ∃ k : Nat, ∃ z : Nat, j = .int .i64 k ∧ k ≤ m ∧ n = .int .i64 z ∧ Aside (z = beN (bs.take k))) (fun n j => m - (intOf j).toNat)
  case atStart => exact ⟨0, 0, rfl, Nat.zero_le _, rfl, ⟨rfl⟩⟩
  case round =>
    obtain ⟨k, z, rfl, hk, rfl, HZ⟩ := hrel
    by_cases hlt : k < m
    · have hlt' : k < bs.length := by rw [← HM.out]; exact hlt
      obtain ⟨a, rfl, hab, h0⟩ := slB_at hs k hlt'
      have hb0 : (bs.getD k 0).toNat < 256 := (bs.getD k 0).toNat_lt
      have HN : Aside (z * 256 + (bs.getD k 0).toNat = beN (bs.take (k + 1))) := ⟨by rw [take_snocB hlt', beN_snoc, HZ.out]⟩
      have hz : z < 16777216 := by
        have := beN_lt (bs.take k)
        rw [← HZ.out, List.length_take] at this
        have h1 : min k bs.length ≤ 3 := by omega
        have := Nat.pow_le_pow_right (show 0 < 256 by omega) h1
        omega
      generalize (bs.getD k 0).toNat = b at *
      clear HZ hs
      go_wp2
      go_round
      case rel => exact ⟨k + 1, z * 256 + b, by go_num, by omega, by go_num, HN⟩
      case measure => simp [intOf]; omega
    · obtain rfl : k = m := by omega
      have HF : Aside (R = (z : Int)) := ⟨by rw [HR.out, HZ.out, HM.out, List.take_length]⟩
      clear HR HZ hs
      go_wp2
      go_ret
      exact ⟨by rw [HF.out]; rfl, hr, hg⟩

theorem headN_beN (l : List UInt8) (h : l.length ≤ 1) : headN l = beN l := by
  rcases l with _ | ⟨a, _ | ⟨b, l⟩⟩
  · rfl
  · simp [headN, beN]
  · simp at h

set_option maxHeartbeats 400000 in
theorem count30 (B g : Nat) (s : RSt) (most : Int) (w : World) (h : RdrAt 65 w B g s) (hl : s.1.length ≤ maxLen) (hmost : 0 ≤ most) :
    Calls Try.prog 30 #[.pointer (some ⟨g, 0, none⟩), .int .i64 most] w (NumPost 65 w B g (countR s most)) := by
  have hn := num31 B g 1 s w h hl (by omega)
  obtain ⟨R, hR⟩ : ∃ R, R = countR s most := ⟨_, rfl⟩
  rw [← hR]
  have HR := Aside.mk hR
  clear hR
  have hz : (takeR s 1).2.2 = 0 ∨ beN (takeR s 1).1 = 0 := by
    obtain ⟨l, e⟩ := s
    unfold takeR
    by_cases he : e = 0
    · subst he
      rw [if_pos rfl]
      by_cases hl : l.length < 1
      · rw [if_pos hl]; exact .inr rfl
      · rw [if_neg hl]; exact .inl rfl
    · rw [if_neg he]; exact .inr rfl
  have HR' : Aside (R = if most < (numR 1 s).1 then (0, ((numR 1 s).2.1, 4)) else numR 1 s) := ⟨by rw [HR.out, countR, headN_beN _ (takeR_len s 1)]; rfl⟩
  replace hz : (numR 1 s).2.2 = 0 ∨ (numR 1 s).1 = 0 := by
    rcases hz with h | h
    · exact .inl h
    · exact .inr (by show ((beN (takeR s 1).1 : Nat) : Int) = 0; rw [h]; rfl)
  clear HR
  generalize numR 1 s = r at *
  obtain ⟨n, left, err⟩ := r
  simp only at *
  by_cases hgt : most < n
  · obtain rfl : err = 0 := by
      rcases hz with h | h
      · exact h
      · omega
    have HF : Aside (R = (0, (left, 4))) := ⟨by rw [HR'.out, if_pos hgt]⟩
    clear HR' hz
    go_enter Try.func30, Try.ntmps30
    go_wp2_with fail
    refine hn.mono ?_
    rintro e w2 ⟨rfl, hr, hg⟩
    simp only at *
    have hfl := fail48 B g (left, 0) 4 w2 hr
    rw [show failR (left, 0) 4 = (left, 4) from rfl] at hfl
    go_wp2_with fail
    refine hfl.mono ?_
    rintro e w3 ⟨rfl, hr3, hg3⟩
    go_wp2
    go_ret
    rw [HF.out]
    exact ⟨rfl, hr3, hg.trans hg3⟩
  · have HF : Aside (R = (n, (left, err))) := ⟨by rw [HR'.out, if_neg hgt]⟩
    clear HR' hz
    go_enter Try.func30, Try.ntmps30
    go_wp2_with fail
    refine hn.mono ?_
    rintro e w2 ⟨rfl, hr, hg⟩
    simp only at *
    go_wp2
    go_ret
    rw [HF.out]
    exact ⟨rfl, hr, hg⟩

def endR (s : RSt) : Int := if s.2 = 0 then (if 0 < s.1.length then 5 else 0) else s.2
set_option maxHeartbeats 400000 in
theorem end34 (B g : Nat) (s : RSt) (w : World) (h : RdrAt 65 w B g s) (hl : s.1.length ≤ maxLen) :
    Calls Try.prog 34 #[.pointer (some ⟨g, 0, none⟩)] w (fun e w' => e = .returned (.int .i64 (endR s)) ∧ w = w') := by
  obtain ⟨R, hR⟩ : ∃ R, R = endR s := ⟨_, rfl⟩
  rw [← hR]
  have HR := Aside.mk hR
  clear hR
  unfold maxLen at hl
  obtain ⟨left, err⟩ := s
  obtain ⟨v, hb, hs, hBg⟩ := h
  obtain ⟨A, c, rfl, hlc⟩ := hs.form
  have hc0 := hb.cell 0
  have hc1 := hb.cell 1
  simp only [List.getElem?_toArray, List.getElem?_cons_zero, List.getElem?_cons_succ] at hc0 hc1
  simp only at hl
  obtain ⟨m, hm⟩ : ∃ m, m = left.length := ⟨_, rfl⟩
  rw [← hm] at hc0 hlc hl
  by_cases h0 : err = 0
  · subst h0
    by_cases h1 : 0 < m
    · have HF : Aside (R = 5) := ⟨by rw [HR.out, endR, if_pos rfl, if_pos (by rw [← hm]; exact h1)]⟩
      clear HR hm hs hb
      go_enter Try.func34, Try.ntmps34
      go_wp2
      go_ret
      exact ⟨by rw [HF.out]; rfl, rfl⟩
    · have HF : Aside (R = 0) := ⟨by rw [HR.out, endR, if_pos rfl, if_neg (by rw [← hm]; exact h1)]⟩
      clear HR hm hs hb
      go_enter Try.func34, Try.ntmps34
      go_wp2
      go_ret
      exact ⟨by rw [HF.out]; rfl, rfl⟩
  · have HF : Aside (R = err) := ⟨by rw [HR.out, endR, if_neg h0]⟩
    have h0b : (err == 0) = false := by simpa using h0
    clear HR hm hs hb h0
    go_enter Try.func34, Try.ntmps34
    go_wp2
    go_ret
    exact ⟨by rw [HF.out]; rfl, rfl⟩

def signZ (n : Int) : Int := if 2147483648 ≤ n then n - 4294967296 else n
set_option maxHeartbeats 400000 in
theorem sign33 (n : Int) (w : World) (h0 : 0 ≤ n) (h1 : n < 4294967296) :
    Calls Try.prog 33 #[.int .i64 n] w (fun e w' => e = .returned (.int .i64 (signZ n)) ∧ w = w') := by
  obtain ⟨R, hR⟩ : ∃ R, R = signZ n := ⟨_, rfl⟩
  rw [← hR]
  have HR := Aside.mk hR
  clear hR
  by_cases h : 2147483648 ≤ n
  · have HF : Aside (R = n - 4294967296) := ⟨by rw [HR.out, signZ, if_pos h]⟩
    clear HR
    go_enter Try.func33, Try.ntmps33
    go_wp2
    go_ret
    exact ⟨by rw [HF.out]; rfl, rfl⟩
  · have HF : Aside (R = n) := ⟨by rw [HR.out, signZ, if_neg h]⟩
    clear HR
    go_enter Try.func33, Try.ntmps33
    go_wp2
    go_ret
    exact ⟨by rw [HF.out]; rfl, rfl⟩
end Go.Proofs.Ytamaihlpdebekaa
