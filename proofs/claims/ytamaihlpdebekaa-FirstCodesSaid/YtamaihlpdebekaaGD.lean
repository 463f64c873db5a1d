/- rosetteref15: Right. -/
import Derived.Test.YtamaihlpdebekaaGC
import Derived.StillTailTactics
namespace Go.Proofs.Ytamaihlpdebekaa
open Go.RowKit
set_option linter.unusedVariables false
set_option linter.unusedSimpArgs false

theorem inB_cases (y z : Int) : (inB y (z + 1) 65535 = true ∧ ¬ y ≤ z ∧ ¬ 65535 < y) ∨ (inB y (z + 1) 65535 = false ∧ (y ≤ z ∨ (¬ y ≤ z ∧ 65535 < y))) := by
  unfold inB
  by_cases h1 : z + 1 ≤ y
  · by_cases h2 : y ≤ 65535
    · exact .inl ⟨by simp [h1, h2], by omega, by omega⟩
    · exact .inr ⟨by simp [h2], .inr ⟨by omega, by omega⟩⟩
  · exact .inr ⟨by simp [h1], .inl (by omega)⟩

set_option maxHeartbeats 2000000 in
theorem right16 (vL vS : Value) (f : First) (w : World) (hL : enI64.Rd w vL f.links) (hS : enSub.Rd w vS f.subs) (hnL : f.links.length ≤ maxLen) (hnS : f.subs.length ≤ maxLen) (hnR : ∀ s ∈ f.subs, s.ranges.length ≤ maxLen) :
    Calls Try.prog 16 #[.agg #[vL, vS]] w fun e w' => e = .returned (.bool f.right) ∧ Below w.heap.size w w' := by
  obtain ⟨R, hR⟩ : ∃ R, R = f.right := ⟨_, rfl⟩
  rw [← hR]
  unfold First.right at hR
  obtain ⟨links, subs⟩ := f
  simp only at *
  have HnL := Aside.mk hnL
  unfold maxLen at hnL hnS
  obtain ⟨AL, cL, rfl, hlL⟩ := hL.form
  obtain ⟨AS, cS, rfl, hlS⟩ := hS.form
  obtain ⟨nL, hNL⟩ : ∃ n, n = links.length := ⟨_, rfl⟩
  obtain ⟨nS, hNS⟩ : ∃ n, n = subs.length := ⟨_, rfl⟩
  rw [← hNL] at hnL hlL hL hR ⊢
  rw [← hNS] at hnS hlS hS hR ⊢
  have HNL := Aside.mk hNL
  have HRR := Aside.mk hR
  clear hR
  have HNS := Aside.mk hNS
  clear hNL hNS
  have hB0 : Below w.heap.size w (w.alloc (.cells #[.slice AL nL cL, .slice AS nS cS] 25)) := (Below.refl _ _).alloc (Nat.le_refl _) _
  have hL0 := hL.below hB0
  have hbox := Blk.new w 25 #[.slice AL nL cL, .slice AS nS cS]
  go_enter Try.func16, Try.ntmps16
  go_wp2
  go_loop [3, 4] (fun last j => ∃ k : Nat, ∃ z : Int, j = .int .i64 k ∧ last = .int .i64 z ∧ k ≤ nL ∧ 0 ≤ z ∧ z ≤ 65535 ∧ Aside (linksOk 0 links = linksOk z (links.drop k))) (fun last j => nL - (intOf j).toNat)
  case atStart => exact ⟨0, 0, rfl, rfl, Nat.zero_le _, by omega, by omega, ⟨rfl⟩⟩
  case round =>
    obtain ⟨k, z, rfl, rfl, hk, hz0, hz1, HE⟩ := hrel
    by_cases hlt : k < nL
    · obtain ⟨a, rfl, hab, h0⟩ := rdI_at hL0 k (by rw [← HNL.out]; exact hlt)
      have HD := Aside.mk (linksOk_drop (last := z) (l := links) (k := k) (by rw [← HNL.out]; exact hlt))
      have hyc := inB_cases (links.getD k 0) z
      generalize links.getD k 0 = y at *
      clear hL hS hL0
      rcases hyc with ⟨hi, y1, y2⟩ | ⟨hi, hyc⟩
      · have HX : Aside (linksOk 0 links = linksOk y (links.drop (k + 1))) := ⟨by rw [HE.out, HD.out, hi, Bool.true_and]⟩
        clear hi HE HD
        go_wp2
        go_round
        case rel => exact ⟨k + 1, y, by go_num, rfl, by omega, by omega, by omega, HX⟩
        case measure => simp [intOf]; omega
      · have HF : Aside (R = false) := ⟨by rw [HRR.out, HE.out, HD.out, hi]; rfl⟩
        clear hi HE HD
        rcases hyc with y1 | ⟨y1, y2⟩
        all_goals
          go_wp2
          go_ret
          exact ⟨by rw [HF.out]; rfl, hB0⟩
    · obtain rfl : k = nL := by omega
      have HF : Aside (linksOk 0 links = true) := ⟨by rw [HE.out, HNL.out, List.drop_length]; rfl⟩
      clear HE
      go_wp2
      obtain ⟨W0, hW0⟩ : ∃ W0, W0 = (w.alloc (.cells #[.slice AL k cL, .slice AS nS cS] 25)) := ⟨_, rfl⟩
      rw [← hW0] at hB0 hbox hL0 ⊢
      clear hW0 hL0
      go_loopw [3, 5, 6] (fun last j u6 wr => ∃ m : Nat, ∃ z : Int, j = .int .i64 m ∧ last = .int .i64 z ∧ m ≤ nS ∧ 0 ≤ z ∧ z ≤ 65535 ∧ Aside (subsOk links 0 subs = subsOk links z (subs.drop m)) ∧ Below w.heap.size w wr ∧ Blk wr w.heap.size 25 #[.slice AL k cL, .slice AS nS cS]) (fun last j u6 wr => nS - (intOf j).toNat)
      case atStart => exact ⟨0, 0, rfl, rfl, Nat.zero_le _, by omega, by omega, ⟨rfl⟩, hB0, hbox⟩
      case round =>
        clear hbox hB0
        obtain ⟨m, z, rfl, rfl, hm, hz0, hz1, HE, hB, hbox⟩ := hrel
        have hbx0 := hbox.cell 0
        have hbx1 := hbox.cell 1
        have hblt := hbox.lt
        simp only [List.getElem?_toArray, List.getElem?_cons_zero, List.getElem?_cons_succ] at hbx0 hbx1
        by_cases hlt : m < nS
        · have hlt' : m < subs.length := by rw [← HNS.out]; exact hlt
          obtain ⟨a, v, rfl, hab, hv, h0, h1, h2⟩ := rdSub_at (hS.below hB) m hlt'
          have HD := Aside.mk (subsOk_drop (links := links) (last := z) (l := subs) (k := m) hlt')
          have hnr := hnR _ (List.getElem_mem hlt')
          generalize subs[m] = s at *
          have hone := fun W (hW : Below w.heap.size w W) (hW2 : Below wr.heap.size wr W) => one39 v _ s links W (hv.below hW2) (hL.below hW) hnr HnL.out
          have hyc := inB_cases s.id z
          have hcl : ∀ w5, Below wr.heap.size wr w5 → w5.cell? (a.add (m * 3)) = some (.int .i64 s.id) := fun w5 h => (h.cell (by rw [block_of_add]; exact hab)).trans h0
          obtain ⟨Av, cv, rfl, hlv⟩ := hv.form
          have HCL := Aside.mk hcl
          clear hL hS hv hnr hcl
          have i0 : (0 : Int) ≤ (m : Int) := Int.natCast_nonneg _
          have i1 : (m : Int) < (nS : Int) := by omega
          go_wp2
          go_still_tail 7, (by kernel_rfl)
          change wpList _ _ _ _ _ wr.drew
          have hB' := below_drew hB
          have hcall := hone wr.drew hB' (below_drew (Below.refl _ _))
          have HBW := Aside.mk (below_drew (Below.refl wr.heap.size wr))
          clear hone
          go_wp2_with fail
          refine hcall.mono ?_
          rintro e w2 ⟨rfl, hb⟩
          have hB2 := below_step hB' hb
          have hg0 := HCL.out w2 (HBW.out.trans hb)
          have hbox2 : Blk w2 w.heap.size 25 #[.slice AL k cL, .slice (some a) nS cS] := Blk.below (w := wr.drew) hbox hb hblt
          have g0 := hbox2.cell 0
          have g1 := hbox2.cell 1
          simp only [List.getElem?_toArray, List.getElem?_cons_zero, List.getElem?_cons_succ] at g0 g1
          clear hcall hB hB' h0 h1 h2 hbx0 hbx1 hb hbox
          cases hok : s.ok links
          · have HX : Aside (R = false) := ⟨by rw [HRR.out, HE.out, HD.out, hok, Bool.and_false, Bool.false_and, Bool.and_false, Bool.false_and, Bool.false_and]⟩
            clear HE HD hok hyc
            go_wp2
            go_ret
            exact ⟨by rw [HX.out]; rfl, hB2⟩
          · rcases hyc with ⟨hi, y1, y2⟩ | ⟨hi, hyc⟩
            · have HX : Aside (subsOk links 0 subs = subsOk links s.id (subs.drop (m + 1))) := ⟨by rw [HE.out, HD.out, hi, hok, Bool.true_and, Bool.true_and]⟩
              clear hi hok HE HD
              go_wp2
              go_roundw
              case rel => exact ⟨m + 1, s.id, by go_num, rfl, by omega, by omega, by omega, HX, hB2, hbox2⟩
              case measure => simp [intOf]; omega
            · have HX : Aside (R = false) := ⟨by rw [HRR.out, HE.out, HD.out, hi, Bool.false_and, Bool.false_and, Bool.and_false, Bool.false_and, Bool.false_and]⟩
              clear hi hok HE HD
              rcases hyc with y1 | ⟨y1, y2⟩
              all_goals
                go_wp2
                go_ret
                exact ⟨by rw [HX.out]; rfl, hB2⟩
        · obtain rfl : m = nS := by omega
          have HR : Aside (subsOk links 0 subs = true) := ⟨by rw [HE.out, HNS.out, List.drop_length]; rfl⟩
          clear HE
          by_cases h16 : k ≤ 16
          · have HG : Aside (R = decide ((m : Int) ≤ 64)) := ⟨by rw [HRR.out, HF.out, HR.out, decide_eq_true h16]; exact dec_eq (by omega)⟩
            clear HRR
            go_wp2
            go_ret
            exact ⟨ret_bool HG.out.symm, hB⟩
          · have HG : Aside (R = false) := ⟨by rw [HRR.out, HF.out, HR.out, decide_eq_false h16]; rfl⟩
            clear HRR
            go_wp2
            go_ret
            exact ⟨ret_bool HG.out.symm, hB⟩
end Go.Proofs.Ytamaihlpdebekaa
