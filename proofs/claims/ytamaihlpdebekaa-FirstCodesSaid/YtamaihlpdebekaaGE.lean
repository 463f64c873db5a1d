/- rosetteref15: Head; what Decode answers, in its own steps. -/
import Derived.Test.YtamaihlpdebekaaFI
import Derived.Test.YtamaihlpdebekaaGD
namespace Go.Proofs.Ytamaihlpdebekaa
open Go.RowKit
set_option linter.unusedVariables false
set_option linter.unusedSimpArgs false

def headE (bs : List UInt8) (v : UInt8) : Int :=
  if bs.length < 4 then 2 else if bs.take 3 ≠ [82, 83, 84] then 3 else if bs.getD 3 0 ≠ v then 11 else 0

set_option maxHeartbeats 1000000 in
theorem head29 (vb : Value) (bs : List UInt8) (v : UInt8) (w : World) (hb : enU8.Rd w vb bs) (hl : bs.length ≤ maxLen) :
    Calls Try.prog 29 #[vb, .int .u8 (v.toNat : Int)] w (fun e w' => e = .returned (.int .i64 (headE bs v)) ∧ w = w') := by
  obtain ⟨R, hR⟩ : ∃ R, R = headE bs v := ⟨_, rfl⟩
  rw [← hR]
  have HR := Aside.mk hR
  clear hR
  obtain ⟨A, c, rfl, hlc⟩ := hb.form
  obtain ⟨n, hN⟩ : ∃ n, n = bs.length := ⟨_, rfl⟩
  unfold maxLen at hl
  rw [← hN] at hl hlc hb ⊢
  have HN := Aside.mk hN
  clear hN
  by_cases h4 : n < 4
  · have HF : Aside (R = 2) := ⟨by rw [HR.out, headE, if_pos (by rw [← HN.out]; exact h4)]⟩
    clear HR hb
    go_enter Try.func29, Try.ntmps29
    go_wp2
    go_ret
    exact ⟨by rw [HF.out]; rfl, rfl⟩
  · have h1 := hb.take 3 (by omega)
    have e1 := sl_string Try.underlying26 Try.underlying5 Try.underlying9 h1
    obtain ⟨a, rfl, hab, h3⟩ := slB_at hb 3 (by rw [← HN.out]; omega)
    rw [show a.add 3 = ⟨a.block, a.off + 3, none⟩ from rfl] at h3
    have hn4 : ¬ bs.length < 4 := by rw [← HN.out]; exact h4
    have i3 : (3 : Int) < (n : Int) := by omega
    have i3c : (3 : Int) ≤ (c : Int) := by omega
    by_cases q3 : bs.take 3 = [82, 83, 84]
    · have b3 : (bs.take 3 == [82, 83, 84]) = true := by simpa using q3
      by_cases q4 : bs.getD 3 0 = v
      · have HF : Aside (R = 0) := ⟨by rw [HR.out, headE, if_neg hn4, if_neg (by simpa using q3), if_neg (by simpa using q4)]⟩
        have b4 : (((bs.getD 3 0).toNat : Int) != (v.toNat : Int)) = false := by rw [q4]; simp
        clear HR hb q3 q4 h1 hn4
        generalize bs.take 3 = t3 at *
        generalize bs.getD 3 0 = y at *
        go_enter Try.func29, Try.ntmps29
        go_wp2
        go_ret
        exact ⟨by rw [HF.out]; rfl, rfl⟩
      · have HF : Aside (R = 11) := ⟨by rw [HR.out, headE, if_neg hn4, if_neg (by simpa using q3), if_pos q4]⟩
        have b4 : (((bs.getD 3 0).toNat : Int) != (v.toNat : Int)) = true := by
          simp only [bne_iff_ne, ne_eq]
          intro h
          exact q4 (UInt8.toNat_inj.1 (by omega))
        clear HR hb q3 q4 h1 hn4
        generalize bs.take 3 = t3 at *
        generalize bs.getD 3 0 = y at *
        go_enter Try.func29, Try.ntmps29
        go_wp2
        go_ret
        exact ⟨by rw [HF.out]; rfl, rfl⟩
    · have HF : Aside (R = 3) := ⟨by rw [HR.out, headE, if_neg hn4, if_pos q3]⟩
      have b3 : (bs.take 3 == [82, 83, 84]) = false := by simpa using q3
      clear HR hb q3 h1 hn4 h3
      generalize bs.take 3 = t3 at *
      go_enter Try.func29, Try.ntmps29
      go_wp2
      go_ret
      exact ⟨by rw [HF.out]; rfl, rfl⟩

def loopU {T : Type} (f : RSt → T × RSt) : Nat → RSt → List T × RSt
  | 0, s => ([], s)
  | n + 1, s => ((f s).1 :: (loopU f n (f s).2).1, (loopU f n (f s).2).2)
theorem loopU_len {T : Type} (f : RSt → T × RSt) : ∀ n s, (loopU f n s).1.length = n
  | 0, s => rfl
  | n + 1, s => by rw [loopU]; simp only [List.length_cons, loopU_len f n (f s).2]
theorem takeR_err {s : RSt} (h : s.2 ≠ 0) (n : Nat) : takeR s n = ([], s) := by rw [takeR, if_neg h]
theorem loopU_err {s : RSt} (h : s.2 ≠ 0) : ∀ n, (loopU twoR n s).2 = s
  | 0 => rfl
  | n + 1 => by
    have e : (twoR s).2 = s := by rw [twoR, takeR_err h]
    rw [loopU]
    show (loopU twoR n (twoR s).2).2 = s
    rw [e]
    exact loopU_err h n
theorem loopU_two : ∀ n s, (loopU twoR n s).2 = (loopR twoR n s).2 ∧ ((loopR twoR n s).2.2 = 0 → (loopU twoR n s).1 = (loopR twoR n s).1)
  | 0, s => ⟨rfl, fun _ => rfl⟩
  | n + 1, s => by
    by_cases h : s.2 = 0
    · obtain ⟨h1, h2⟩ := loopU_two n (twoR s).2
      rw [loopU, loopR, if_pos h]
      exact ⟨h1, fun e => by
        show (twoR s).1 :: (loopU twoR n (twoR s).2).1 = (twoR s).1 :: (loopR twoR n (twoR s).2).1
        rw [h2 e]⟩
    · rw [loopR, if_neg h]
      exact ⟨loopU_err h (n + 1), fun e => absurd e h⟩

def decD (xs : List Int) (m : List FSub × RSt) : First × Int :=
  if endR m.2 ≠ 0 then (⟨[], []⟩, endR m.2) else if !(First.right ⟨xs, m.1⟩) then (⟨[], []⟩, 3) else (⟨xs, m.1⟩, 0)
def decC (l : List Int × RSt) : First × Int := decD l.1 (loopR subR (countR l.2 64).1.toNat (countR l.2 64).2)
def decU (left : List UInt8) : First × Int := decC (loopU twoR (countR (left, 0) 16).1.toNat (countR (left, 0) 16).2)

theorem countR_err {s : RSt} (h : s.2 ≠ 0) (m : Int) (hm : 0 ≤ m) : countR s m = (0, s) := by
  rw [countR, takeR_err h, if_neg (by show ¬ m < ((headN [] : Nat) : Int); simp [headN]; omega)]
  rfl
theorem decC_eq (l l' : List Int × RSt) (h1 : l.2 = l'.2) (h2 : l'.2.2 = 0 → l.1 = l'.1) : decC l = decC l' := by
  obtain ⟨xs, s⟩ := l
  obtain ⟨ys, s'⟩ := l'
  obtain rfl : s = s' := h1
  by_cases h : s.2 = 0
  · obtain rfl : xs = ys := h2 h
    rfl
  · unfold decC decD
    simp only
    rw [countR_err h 64 (by omega)]
    have : endR s ≠ 0 := by rw [endR, if_neg h]; exact h
    simp only [Int.toNat_zero, loopR]
    rw [if_pos this, if_pos this]

theorem head_decode (bs : List UInt8) : decodeF bs = if headE bs 1 ≠ 0 then (⟨[], []⟩, headE bs 1) else decU (bs.drop 4) := by
  by_cases h4 : bs.length < 4
  · have e : headE bs 1 = 2 := by rw [headE, if_pos h4]
    rw [e, decodeF, if_pos h4, if_pos (by decide)]
  · by_cases h3 : bs.take 3 = [82, 83, 84]
    · have ht : bs.take 4 = bs.take 3 ++ [bs.getD 3 0] := take_snocB (by omega)
      by_cases hv : bs.getD 3 0 = 1
      · have e : headE bs 1 = 0 := by rw [headE, if_neg h4, if_neg (not_not_intro h3), if_neg (not_not_intro hv)]
        rw [e, if_neg (by decide), decodeF, if_neg h4, if_neg (not_not_intro h3), if_neg (not_not_intro (by rw [ht, h3, hv]; rfl))]
        unfold decU
        rw [decC_eq _ _ (loopU_two _ _).1 (loopU_two _ _).2]
        unfold decC decD endR
        simp only
        generalize loopR twoR (countR (bs.drop 4, 0) 16).1.toNat (countR (bs.drop 4, 0) 16).2 = l
        generalize loopR subR (countR l.2 64).1.toNat (countR l.2 64).2 = m
        by_cases h0 : m.2.2 = 0
        · by_cases hl : 0 < m.2.1.length
          · simp [h0, hl]
          · simp [h0, hl]
        · simp [h0]
      · have e : headE bs 1 = 11 := by rw [headE, if_neg h4, if_neg (not_not_intro h3), if_pos hv]
        rw [e, if_pos (by decide), decodeF, if_neg h4, if_neg (not_not_intro h3), if_pos (by rw [ht, h3]; simpa using hv)]
    · have e : headE bs 1 = 3 := by rw [headE, if_neg h4, if_pos h3]
      rw [e, if_pos (by decide), decodeF, if_neg h4, if_pos h3]
end Go.Proofs.Ytamaihlpdebekaa
