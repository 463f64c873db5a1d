/- first: Right. -/
import Derived.Test.YtamaihlpdebekaaFC
namespace Go.Proofs.Ytamaihlpdebekaa
open Go.RowKit
set_option linter.unusedVariables false
set_option linter.unusedSimpArgs false

theorem linksOk_drop {last : Int} {l : List Int} {k : Nat} (h : k < l.length) : linksOk last (l.drop k) = (inB (l.getD k 0) (last + 1) 65535 && linksOk (l.getD k 0) (l.drop (k + 1))) := by
  rw [List.drop_eq_getElem_cons h, linksOk]
  simp [h]
theorem subsOk_drop {links : List Int} {last : Int} {l : List FSub} {k : Nat} (h : k < l.length) : subsOk links last (l.drop k) = (inB l[k].id (last + 1) 65535 && l[k].ok links && subsOk links l[k].id (l.drop (k + 1))) := by
  rw [List.drop_eq_getElem_cons h, subsOk]
theorem inB_true {n a b : Int} (h : inB n a b = true) : a ≤ n ∧ n ≤ b := by simpa [inB] using h

set_option maxHeartbeats 1000000 in
theorem right15 (vL vS : Value) (f : First) (w : World) (hL : enI64.Rd w vL f.links) (hS : enSub.Rd w vS f.subs) (hnL : f.links.length ≤ maxLen) (hnS : f.subs.length ≤ maxLen) :
    Calls Try.prog 15 #[.agg #[vL, vS]] w fun e w' => e = .returned (.bool f.right) ∧ Below w.heap.size w w' := by
  have h35 := fun (a b c : Int) (W : World) => in_any a b c W
  obtain ⟨R, hR⟩ : ∃ R, R = f.right := ⟨_, rfl⟩
  rw [← hR]
  unfold First.right at hR
  obtain ⟨links, subs⟩ := f
  simp only at *
  unfold maxLen at hnL hnS
  obtain ⟨AL, cL, rfl, hlL⟩ := hL.form
  obtain ⟨AS, cS, rfl, hlS⟩ := hS.form
  obtain ⟨nL, hNL⟩ : ∃ n, n = links.length := ⟨_, rfl⟩
  obtain ⟨nS, hNS⟩ : ∃ n, n = subs.length := ⟨_, rfl⟩
  rw [← hNL] at hnL hlL hL hR ⊢
  rw [← hNS] at hnS hlS hS hR ⊢
  have HNL := Aside.mk hNL
  have HRR := Aside.mk hR
  clear hR
  have HNS := Aside.mk hNS
  clear hNL hNS
  have hB0 : Below w.heap.size w (w.alloc (.cells #[.slice AL nL cL, .slice AS nS cS] 25)) := (Below.refl _ _).alloc (Nat.le_refl _) _
  have hL0 := hL.below hB0
  have hbox := Blk.new w 25 #[.slice AL nL cL, .slice AS nS cS]
  go_enter Try.func15, Try.ntmps15
  go_wp2
  go_loop [3, 11] (fun last j => ∃ k : Nat, ∃ z : Int, j = .int .i64 k ∧ last = .int .i64 z ∧ k ≤ nL ∧ 0 ≤ z ∧ z ≤ 65535 ∧ Aside (linksOk 0 links = linksOk z (links.drop k))) (fun last j => nL - (intOf j).toNat)
  case atStart => exact ⟨0, 0, rfl, rfl, Nat.zero_le _, by omega, by omega, ⟨rfl⟩⟩
  case round =>
    obtain ⟨k, z, rfl, rfl, hk, hz0, hz1, HE⟩ := hrel
    by_cases hlt : k < nL
    · obtain ⟨a, rfl, hab, h0⟩ := rdI_at hL0 k (by rw [← HNL.out]; exact hlt)
      have HD := Aside.mk (linksOk_drop (last := z) (l := links) (k := k) (by rw [← HNL.out]; exact hlt))
      generalize links.getD k 0 = y at *
      clear hL hS hL0
      cases hi : inB y (z + 1) 65535
      · have i1 := fun W => in_no y (z + 1) 65535 W hi
        have HF : Aside (linksOk 0 links = false) := ⟨by rw [HE.out, HD.out, hi]; rfl⟩
        clear h35 hi HE HD
        go_wp2_with fail
        refine (i1 _).mono ?_
        rintro e w' ⟨rfl, rfl⟩
        go_wp2
        go_ret
        exact ⟨by rw [HRR.out, HF.out]; rfl, hB0⟩
      · have i1 := fun W => in_yes y (z + 1) 65535 W hi
        obtain ⟨hy0, hy1⟩ := inB_true hi
        have HX : Aside (linksOk 0 links = linksOk y (links.drop (k + 1))) := ⟨by rw [HE.out, HD.out, hi, Bool.true_and]⟩
        clear h35 hi HE HD
        go_wp2_with fail
        refine (i1 _).mono ?_
        rintro e w' ⟨rfl, rfl⟩
        go_wp2
        go_round
        case rel => exact ⟨k + 1, y, by go_num, rfl, by omega, by omega, by omega, HX⟩
        case measure => simp [intOf]; omega
    · obtain rfl : k = nL := by omega
      have HF : Aside (linksOk 0 links = true) := ⟨by rw [HE.out, HNL.out, List.drop_length]; rfl⟩
      clear HE
      go_wp2
      obtain ⟨W0, hW0⟩ : ∃ W0, W0 = (w.alloc (.cells #[.slice AL k cL, .slice AS nS cS] 25)) := ⟨_, rfl⟩
      rw [← hW0] at hB0 hbox hL0 ⊢
      clear hW0
      have hS0 := hS.below hB0
      go_loopw [3, 25] (fun last j wr => ∃ m : Nat, ∃ z : Int, j = .int .i64 m ∧ last = .int .i64 z ∧ m ≤ nS ∧ 0 ≤ z ∧ z ≤ 65535 ∧ Aside (subsOk links 0 subs = subsOk links z (subs.drop m)) ∧ Below w.heap.size w wr ∧ Blk wr w.heap.size 25 #[.slice AL k cL, .slice AS nS cS]) (fun last j wr => nS - (intOf j).toNat)
      case atStart => exact ⟨0, 0, rfl, rfl, Nat.zero_le _, by omega, by omega, ⟨rfl⟩, hB0, hbox⟩
      case round =>
        clear hbox hB0 hL0 hS0
        obtain ⟨m, z, rfl, rfl, hm, hz0, hz1, HE, hB, hbox⟩ := hrel
        have hbx0 := hbox.cell 0
        have hbx1 := hbox.cell 1
        have hblt := hbox.lt
        simp only [List.getElem?_toArray, List.getElem?_cons_zero, List.getElem?_cons_succ] at hbx0 hbx1
        by_cases hlt : m < nS
        · have hlt' : m < subs.length := by rw [← HNS.out]; exact hlt
          obtain ⟨a, v, rfl, hab, hv, h0, h1, h2⟩ := rdSub_at (hS.below hB) m hlt'
          have HD := Aside.mk (subsOk_drop (links := links) (last := z) (l := subs) (k := m) hlt')
          generalize subs[m] = s at *
          have hW1 : Below wr.heap.size wr (wr.alloc (.cells #[.int .i64 s.id, .int .i64 s.from_, v] 40)) := (Below.refl _ _).alloc (Nat.le_refl _) _
          have hB1 := below_step hB hW1
          have hcon := fun W (hW : Below wr.heap.size wr W) => anyWrong v s.ranges W (hv.below hW)
          have hct := fun W (hW : Below w.heap.size w W) => contains38 _ links s.from_ W (hL.below hW) (by rw [← HNL.out]; unfold maxLen; omega)
          obtain ⟨Av, cv, rfl, hlv⟩ := hv.form
          clear hL hS hv
          cases hi : inB s.id (z + 1) 65535
          · have i1 := fun W => in_no s.id (z + 1) 65535 W hi
            have HR : Aside (subsOk links 0 subs = false) := ⟨by rw [HE.out, HD.out, hi]; rfl⟩
            clear h35 hi HE HD hcon hct
            go_wp2_with fail
            refine (i1 _).mono ?_
            rintro e w' ⟨rfl, rfl⟩
            go_wp2
            go_ret
            exact ⟨by rw [HRR.out, HR.out, HF.out]; rfl, hB1⟩
          · have i1 := fun W => in_yes s.id (z + 1) 65535 W hi
            obtain ⟨hy0, hy1⟩ := inB_true hi
            by_cases h12 : 12 < s.ranges.length
            · have HR : Aside (subsOk links 0 subs = false) := ⟨by rw [HE.out, HD.out, hi, FSub.ok, decide_eq_false (by omega)]; rfl⟩
              clear h35 hi HE HD hcon hct
              go_wp2_with fail
              refine (i1 _).mono ?_
              rintro e w' ⟨rfl, rfl⟩
              go_wp2
              go_ret
              exact ⟨by rw [HRR.out, HR.out, HF.out]; rfl, hB1⟩
            · have hcon1 := hcon _ hW1 (by unfold maxLen; omega)
              cases ha : s.ranges.any Rng.wrong
              · rw [ha] at hcon1
                cases hct0 : links.contains s.from_
                · have HR : Aside (subsOk links 0 subs = false) := ⟨by rw [HE.out, HD.out, FSub.ok, hct0, Bool.and_false, Bool.and_false, Bool.false_and]⟩
                  rw [hct0] at hct
                  clear h35 hi HE HD hcon hct0 ha
                  go_wp2_with fail
                  refine (i1 _).mono ?_
                  rintro e w' ⟨rfl, rfl⟩
                  go_wp2_with fail
                  refine hcon1.mono ?_
                  rintro e w2 ⟨rfl, hb2⟩
                  obtain ⟨hc, hf⟩ := bcell hb2
                  have hB2 := below_step hB1 hb2
                  have hsz := hb2.size
                  go_wp2_with fail
                  refine (hct _ hB2).mono ?_
                  rintro e w' ⟨rfl, rfl⟩
                  go_wp2
                  go_ret
                  exact ⟨by rw [HRR.out, HR.out, HF.out]; rfl, hB2⟩
                · have HX : Aside (subsOk links 0 subs = subsOk links s.id (subs.drop (m + 1))) := ⟨by rw [HE.out, HD.out, FSub.ok, hct0, ha, hi, decide_eq_true (by omega)]; rfl⟩
                  rw [hct0] at hct
                  clear h35 hi HE HD hcon hct0 ha
                  go_wp2_with fail
                  refine (i1 _).mono ?_
                  rintro e w' ⟨rfl, rfl⟩
                  go_wp2_with fail
                  refine hcon1.mono ?_
                  rintro e w2 ⟨rfl, hb2⟩
                  obtain ⟨hc, hf⟩ := bcell hb2
                  have hB2 := below_step hB1 hb2
                  have hsz := hb2.size
                  go_wp2_with fail
                  refine (hct _ hB2).mono ?_
                  rintro e w' ⟨rfl, rfl⟩
                  go_wp2
                  go_roundw
                  case rel => exact ⟨m + 1, s.id, by go_num, rfl, by omega, by omega, by omega, HX, hB2, (hbox.alloc _).below hb2 (by simp; omega)⟩
                  case measure => simp [intOf]; omega
              · have HR : Aside (subsOk links 0 subs = false) := ⟨by rw [HE.out, HD.out, FSub.ok, ha, Bool.not_true, Bool.and_false, Bool.false_and, Bool.and_false, Bool.false_and]⟩
                rw [ha] at hcon1
                clear h35 hi HE HD hcon hct ha
                go_wp2_with fail
                refine (i1 _).mono ?_
                rintro e w' ⟨rfl, rfl⟩
                go_wp2_with fail
                refine hcon1.mono ?_
                rintro e w2 ⟨rfl, hb2⟩
                obtain ⟨hc, hf⟩ := bcell hb2
                have hB2 := below_step hB1 hb2
                go_wp2
                go_ret
                exact ⟨by rw [HRR.out, HR.out, HF.out]; rfl, hB2⟩
        · obtain rfl : m = nS := by omega
          have HR : Aside (subsOk links 0 subs = true) := ⟨by rw [HE.out, HNS.out, List.drop_length]; rfl⟩
          clear HE h35
          by_cases h16 : k ≤ 16
          · have HG : Aside (R = decide ((m : Int) ≤ 64)) := ⟨by rw [HRR.out, HF.out, HR.out, decide_eq_true h16]; exact dec_eq (by omega)⟩
            clear HRR
            go_wp2
            go_ret
            exact ⟨ret_bool HG.out.symm, hB⟩
          · have HG : Aside (R = false) := ⟨by rw [HRR.out, HF.out, HR.out, decide_eq_false h16]; rfl⟩
            clear HRR
            go_wp2
            go_ret
            exact ⟨ret_bool HG.out.symm, hB⟩
end Go.Proofs.Ytamaihlpdebekaa
