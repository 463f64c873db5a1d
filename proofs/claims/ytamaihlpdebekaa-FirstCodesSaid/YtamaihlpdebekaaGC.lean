/- rosetteref15: one, Right. -/
import Derived.Test.YtamaihlpdebekaaGA
namespace Go.Proofs.Ytamaihlpdebekaa
open Go.RowKit
set_option linter.unusedVariables false
set_option linter.unusedSimpArgs false

theorem wrong_cases (r : Rng) : (r.wrong = false ∧ ¬ r.name.size < 1 ∧ ¬ 16 < r.name.size ∧ ¬ r.lo < -2147483648 ∧ ¬ 2147483647 < r.lo ∧ ¬ r.hi < -2147483648 ∧ ¬ 2147483647 < r.hi) ∨
    (r.wrong = true ∧ (r.name.size < 1 ∨ (¬ r.name.size < 1 ∧ 16 < r.name.size) ∨ (¬ r.name.size < 1 ∧ ¬ 16 < r.name.size ∧ r.lo < -2147483648) ∨ (¬ r.name.size < 1 ∧ ¬ 16 < r.name.size ∧ ¬ r.lo < -2147483648 ∧ 2147483647 < r.lo) ∨
      (¬ r.name.size < 1 ∧ ¬ 16 < r.name.size ∧ ¬ r.lo < -2147483648 ∧ ¬ 2147483647 < r.lo ∧ r.hi < -2147483648) ∨ (¬ r.name.size < 1 ∧ ¬ 16 < r.name.size ∧ ¬ r.lo < -2147483648 ∧ ¬ 2147483647 < r.lo ∧ ¬ r.hi < -2147483648 ∧ 2147483647 < r.hi))) := by
  cases h : r.wrong
  · left
    simp [Rng.wrong, inB] at h
    refine ⟨rfl, ?_⟩
    omega
  · right
    refine ⟨rfl, ?_⟩
    have h2 : ¬ ((1 ≤ (r.name.size : Int) ∧ (r.name.size : Int) ≤ 16) ∧ (-2147483648 ≤ r.lo ∧ r.lo ≤ 2147483647) ∧ (-2147483648 ≤ r.hi ∧ r.hi ≤ 2147483647)) := by
      intro hc
      have : r.wrong = false := by
        unfold Rng.wrong inB
        simp [hc.1, hc.2.1, hc.2.2]
      rw [this] at h
      cases h
    omega
theorem any_drop {T : Type} {p : T → Bool} {l : List T} {k : Nat} (h : k < l.length) : (l.drop k).any p = (p l[k] || (l.drop (k + 1)).any p) := by
  rw [List.drop_eq_getElem_cons h, List.any_cons]
theorem any_take {T : Type} {p : T → Bool} {l : List T} {k : Nat} (h : k < l.length) : (l.take (k + 1)).any p = ((l.take k).any p || p l[k]) := by
  rw [List.take_succ_eq_append_getElem h, List.any_append]; simp

set_option maxHeartbeats 2000000 in
theorem one39 (vr vL : Value) (s : FSub) (links : List Int) (w : World) (hr : enRng.Rd w vr s.ranges) (hL : enI64.Rd w vL links) (hnr : s.ranges.length ≤ maxLen) (hnL : links.length ≤ maxLen) :
    Calls Try.prog 39 #[.agg #[.int .i64 s.id, .int .i64 s.from_, vr], vL] w fun e w' => e = .returned (.bool (s.ok links)) ∧ Below w.heap.size w w' := by
  obtain ⟨R, hR⟩ : ∃ R, R = s.ok links := ⟨_, rfl⟩
  rw [← hR]
  unfold FSub.ok at hR
  obtain ⟨sid, from_, ranges⟩ := s
  simp only at *
  have HR := Aside.mk hR
  clear hR
  unfold maxLen at hnr hnL
  obtain ⟨AR, cR, rfl, hlR⟩ := hr.form
  obtain ⟨AL, cL, rfl, hlL⟩ := hL.form
  obtain ⟨nR, hNR⟩ : ∃ n, n = ranges.length := ⟨_, rfl⟩
  obtain ⟨nL, hNL⟩ : ∃ n, n = links.length := ⟨_, rfl⟩
  rw [← hNR] at hnr hlR hr ⊢
  rw [← hNL] at hnL hlL hL ⊢
  have HNR := Aside.mk hNR
  have HNL := Aside.mk hNL
  clear hNR hNL
  have hB0 : Below w.heap.size w (w.alloc (.cells #[.int .i64 sid, .int .i64 from_, .slice AR nR cR] 40)) := (Below.refl _ _).alloc (Nat.le_refl _) _
  have hbox := Blk.new w 40 #[.int .i64 sid, .int .i64 from_, .slice AR nR cR]
  go_enter Try.func39, Try.ntmps39
  go_wp2
  go_loopw [5, 6] (fun j u6 wr => ∃ k : Nat, j = .int .i64 k ∧ k ≤ nR ∧ Aside (ranges.any Rng.wrong = (ranges.drop k).any Rng.wrong) ∧ Below w.heap.size w wr ∧ Blk wr w.heap.size 40 #[.int .i64 sid, .int .i64 from_, .slice AR nR cR]) (fun j u6 wr => nR - (intOf j).toNat)
  case atStart => exact ⟨0, rfl, Nat.zero_le _, ⟨rfl⟩, hB0, hbox⟩
  case round =>
    clear hB0 hbox
    obtain ⟨k, rfl, hk, HE, hB, hbox⟩ := hrel
    have c1 := hbox.cell 1
    have c2 := hbox.cell 2
    have hlw := hbox.lt
    simp only [List.getElem?_toArray, List.getElem?_cons_zero, List.getElem?_cons_succ] at c1 c2
    by_cases hlt : k < nR
    · have hlt' : k < ranges.length := by rw [← HNR.out]; exact hlt
      obtain ⟨a, rfl, hab, h0, h1, h2⟩ := rdRng_at (hr.below hB) k hlt'
      have HD := Aside.mk (any_drop (p := Rng.wrong) hlt')
      have hwc := wrong_cases ranges[k]
      generalize ranges[k] = r at *
      obtain ⟨nm, lo, hi⟩ := r
      simp only at *
      have hal : Below wr.heap.size wr (wr.alloc (.cells #[.string nm, .int .i64 lo, .int .i64 hi] 46)) := (Below.refl _ _).alloc (Nat.le_refl _) _
      have hB1 := below_step hB hal
      have hbox1 := hbox.alloc (.cells #[.string nm, .int .i64 lo, .int .i64 hi] 46)
      clear hr hL hal
      rcases hwc with ⟨hw, n1, n2, n3, n4, n5, n6⟩ | ⟨hw, hwc⟩
      · have HX : Aside (ranges.any Rng.wrong = (ranges.drop (k + 1)).any Rng.wrong) := ⟨by rw [HE.out, HD.out, hw, Bool.false_or]⟩
        clear HE HD hw
        go_wp2
        go_roundw
        case rel => exact ⟨k + 1, by go_num, by omega, HX, hB1, hbox1⟩
        case measure => simp [intOf]; omega
      · have HX : Aside (R = false) := ⟨by rw [HR.out, HE.out, HD.out, hw, Bool.true_or, Bool.not_true, Bool.and_false, Bool.false_and]⟩
        clear HE HD hw HR
        rcases hwc with n1 | ⟨n1, n2⟩ | ⟨n1, n2, n3⟩ | ⟨n1, n2, n3, n4⟩ | ⟨n1, n2, n3, n4, n5⟩ | ⟨n1, n2, n3, n4, n5, n6⟩
        all_goals
          go_wp2
          go_ret
          exact ⟨by rw [HX.out]; rfl, hB1⟩
    · obtain rfl : k = nR := by omega
      have HX : Aside (R = (decide (k ≤ 12) && links.contains from_)) := ⟨by rw [HR.out, HE.out, HNR.out, List.drop_length, List.any_nil, Bool.not_false, Bool.and_true]⟩
      clear HR HE hr
      go_wp2
      have hL1 := hL.below hB
      clear hL
      go_loopw [7, 8] (fun b j wx => ∃ k : Nat, ∃ q : Bool, j = .int .i64 k ∧ b = .bool q ∧ k ≤ nL ∧ Aside (q = (links.take k).any (· == from_)) ∧ ∃ m, wx = wr.drewN m) (fun b j wx => nL - (intOf j).toNat)
      case atStart => exact ⟨0, false, rfl, rfl, Nat.zero_le _, ⟨rfl⟩, 0, rfl⟩
      case round =>
        obtain ⟨q, b, rfl, rfl, hq, HQ, m, rfl⟩ := hrel
        by_cases hlt : q < nL
        · have hlt' : q < links.length := by rw [← HNL.out]; exact hlt
          obtain ⟨a, rfl, hab, h0⟩ := rdI_at hL1 q hlt'
          rw [show links.getD q 0 = links[q] by simp [hlt']] at h0
          have HD := Aside.mk (any_take (p := (· == from_)) hlt')
          generalize links[q] = y at *
          have i0 : (0 : Int) ≤ (q : Int) := Int.natCast_nonneg _
          have i1 : (q : Int) < (nL : Int) := by omega
          clear hL1
          cases b
          · have HY : Aside ((y == from_) = (links.take (q + 1)).any (· == from_)) := ⟨by rw [HD.out, ← HQ.out, Bool.false_or]⟩
            clear HQ HD
            go_wp2
            go_quiet (fail)
            go_wp2
            go_roundw
            case rel => exact ⟨q + 1, _, by go_num, rfl, by omega, HY, _, rfl⟩
            case measure => simp [intOf]; omega
          · have HY : Aside (true = (links.take (q + 1)).any (· == from_)) := ⟨by rw [HD.out, ← HQ.out, Bool.true_or]⟩
            clear HQ HD
            go_wp2
            go_quiet (fail)
            go_wp2
            go_roundw
            case rel => exact ⟨q + 1, _, by go_num, rfl, by omega, HY, _, rfl⟩
            case measure => simp [intOf]; omega
        · obtain rfl : q = nL := by omega
          have HY : Aside (R = (decide ((k : Int) ≤ 12) && b)) := ⟨by
            rw [HX.out, HQ.out, HNL.out, List.take_length, List.contains_eq_any_beq]
            congr 1
            · exact dec_eq (by omega)
            · congr 1
              funext z
              exact Bool.eq_iff_iff.2 (by simp only [beq_iff_eq]; exact ⟨Eq.symm, Eq.symm⟩)⟩
          clear hL1 HQ HX
          cases b
          · go_wp2
            go_ret
            exact ⟨by rw [HY.out, Bool.and_false]; rfl, below_drewN hB _⟩
          · go_wp2
            go_ret
            exact ⟨by rw [HY.out, Bool.and_true]; rfl, below_drewN hB _⟩
end Go.Proofs.Ytamaihlpdebekaa
