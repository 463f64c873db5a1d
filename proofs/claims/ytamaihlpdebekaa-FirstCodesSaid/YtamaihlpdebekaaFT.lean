/- rosettelaw15.FirstBack: the walk. -/
import Derived.Test.YtamaihlpdebekaaFS
namespace Go.Proofs.Ytamaihlpdebekaa
open Go.RowKit
set_option linter.unusedVariables false
set_option linter.unusedSimpArgs false

theorem encode_to (vL vS : Value) (f : First) (b : Bool) (hr : f.right = b) (w : World) (hL : enI64.Rd w vL f.links) (hS : enSub.Rd w vS f.subs) (hnL : f.links.length ≤ maxLen) (hnS : f.subs.length ≤ maxLen) :
    Calls Try.prog 10 #[.agg #[vL, vS]] w fun e w' => ∃ A n c, e = .returned (.tuple #[.slice A n c, .bool b]) ∧ enU8.Rd w' (.slice A n c) (if b then encF f else []) ∧ Below w.heap.size w w' := by
  refine (encode10 vL vS f w hL hS hnL hnS).mono ?_
  rw [hr.symm]
  rintro e w' ⟨v, rfl, ho, hB⟩
  obtain ⟨A, c, rfl, _⟩ := own_slice ho
  exact ⟨A, _, c, rfl, ho.rd, hB⟩

theorem decode_to2 (v : Value) (bs : List UInt8) (f : First) (x : Int) (hr : decodeF bs = (f, x)) (w : World) (hb : enU8.Rd w v bs) (hl : bs.length ≤ maxLen) :
    Calls Try.prog 12 #[v] w fun e w' => ∃ A n c A' n' c', e = .returned (.tuple #[.agg #[.slice A n c, .slice A' n' c'], .int .i64 x]) ∧ enI64.Rd w' (.slice A n c) f.links ∧ enSub.Rd w' (.slice A' n' c') f.subs ∧ Below w.heap.size w w' :=
  decode_to v bs _ hr w hb hl

set_option maxHeartbeats 4000000 in
set_option maxRecDepth 100000 in
theorem back5 (vL vS vb : Value) (f : First) (bs : List UInt8) (w : World) (hL : enI64.Rd w vL f.links) (hS : enSub.Rd w vS f.subs) (hm : enU8.Rd w vb bs) (hf : Fits f) (hml : bs.length ≤ maxLen) :
    Calls Try.prog 5 #[.agg #[vL, vS], vb] w fun x w' => x = .returned (.bool true) ∧ Below w.heap.size w w' := by
  have hX : Below w.heap.size w (w.alloc (.cells #[vL, vS] 25)) := (Below.refl _ _).alloc (Nat.le_refl _) _
  have hI0 : CutInv w vL vS vb f bs (w.alloc (.cells #[vL, vS] 25)) := ⟨hL.below hX, hS.below hX, hm.below hX, Blk.new _ _ _, hX⟩
  obtain ⟨AL, cL, rfl, _⟩ := hL.form
  obtain ⟨AS, cS, rfl, _⟩ := hS.form
  obtain ⟨Am, cm, rfl, hmc⟩ := hm.form
  clear hL hS hm hX
  obtain ⟨m, hM⟩ : ∃ m, m = bs.length := ⟨_, rfl⟩
  rw [← hM] at hI0 hmc ⊢
  have HM := Aside.mk hM
  have HML := Aside.mk hml
  rw [← hM] at hml
  clear hM
  unfold maxLen at hml
  go_enter Try.func5, Try.ntmps5
  go_wp2_with fail
  refine (small8 _).mono ?_
  rintro x w1 ⟨rfl, hb⟩
  have hI1 := hI0.step hb
  obtain ⟨d0, d1, dl⟩ := hI1.cells
  clear hI0 hb
  go_wp2_with fail
  refine (few9 _ _ f w1 hI1.l hI1.s hf.l hf.s hf.r).mono ?_
  rintro x w2 ⟨q, rfl, hb⟩
  have hI2 := hI1.step hb
  obtain ⟨d0, d1, dl⟩ := hI2.cells
  have hB2 := hI2.bel
  clear hI1 hb
  cases q
  · go_wp2
    go_ret
    exact ⟨rfl, hB2⟩
  by_cases hm2 : 2000 < m
  · go_wp2
    go_ret
    exact ⟨rfl, hB2⟩
  obtain ⟨rt, hrt⟩ : ∃ b, f.right = b := ⟨_, rfl⟩
  have henc := encode_to _ _ f rt hrt w2 hI2.l hI2.s hf.l hf.s
  have HRT := Aside.mk hrt
  clear hrt
  go_wp2_with fail
  refine henc.mono ?_
  rintro x w3 ⟨A3, n3, c3, rfl, hx3, hb⟩
  have hI3 := hI2.step hb
  obtain ⟨d0, d1, dl⟩ := hI3.cells
  have hrt3 := right15 _ _ f w3 hI3.l hI3.s hf.l hf.s
  rw [HRT.out] at hrt3
  clear hI2 hb henc
  go_wp2_with fail
  refine hrt3.mono ?_
  rintro x w4 ⟨rfl, hb⟩
  have hI4 := hI3.step hb
  obtain ⟨d0, d1, dl⟩ := hI4.cells
  have hx4 := hx3.below hb
  clear hI3 hb hrt3 hx3
  obtain ⟨g, ge, HG⟩ : ∃ g ge, Aside (decodeF bs = (g, ge)) := ⟨_, _, ⟨rfl⟩⟩
  cases rt
  · obtain rfl : n3 = 0 := hx4.len.1
    clear hx4
    obtain ⟨wk, hwk⟩ : ∃ wk, wk = w4 := ⟨_, rfl⟩
    subst hwk
    have hIk := hI4
    clear hI4

    have hIk' := hIk
    obtain ⟨d0, d1, dl⟩ := hIk'.cells
    clear hIk'
    have hdb := decode_to2 _ bs g ge HG.out wk hIk.m HML.out
    go_wp2_with fail
    refine hdb.mono ?_
    rintro x w5 ⟨A5, n5, c5, A5', n5', c5', rfl, hgL, hgS, hb⟩
    have hI5 := hIk.step hb
    have hB5 := hI5.bel
    have hal : Below w5.heap.size w5 (w5.alloc (.cells #[.slice A5 n5 c5, .slice A5' n5' c5'] 25)) := (Below.refl _ _).alloc (Nat.le_refl _) _
    clear hdb hIk hb d0 d1 dl
    by_cases he : ge = 0
    · subst he
      have hgr : g.right = true := by have := decode_read (bs := bs) (by rw [HG.out]); rw [HG.out] at this; exact this.1
      have hge : encF g = bs := by have := decode_read (bs := bs) (by rw [HG.out]); rw [HG.out] at this; exact this.2
      have hgf := right_facts hgr
      have hgL5 := hgL.below hal
      have hgS5 := hgS.below hal
      have hI6 := hI5.step hal
      have hX6 := Blk.new w5 25 #[.slice A5 n5 c5, .slice A5' n5' c5']
      have henc := encode_to _ _ g true hgr _ hgL5 hgS5 (by unfold maxLen; omega) (by unfold maxLen; omega)
      rw [if_pos rfl, hge] at henc
      have hg16 : g.links.length ≤ maxLen := by unfold maxLen; omega
      have hg64 : g.subs.length ≤ maxLen := by unfold maxLen; omega
      have HGR := Aside.mk hgr
      have HG6 := Aside.mk hg16
      have HG7 := Aside.mk hg64
      clear hgr hge hgf hI5 hB5 hgL hgS hg16 hg64
      go_wp2_with fail
      refine henc.mono ?_
      rintro x w7 ⟨A7, n7, c7, rfl, hx7, hb⟩
      have hI7 := hI6.step hb
      have hX7 := hX6.below hb hX6.lt
      have e0 := hX7.cell 0
      have e1 := hX7.cell 1
      have el := hX6.lt
      simp only [List.getElem?_toArray, List.getElem?_cons_zero, List.getElem?_cons_succ] at e0 e1
      have hrt7 := right15 _ _ g w7 (hgL5.below hb) (hgS5.below hb) HG6.out HG7.out
      rw [HGR.out] at hrt7
      clear henc hI6 hb hgL5 hgS5
      go_wp2_with fail
      refine hrt7.mono ?_
      rintro x w8 ⟨rfl, hb⟩
      have hI8 := hI7.step hb
      have hx8 := hx7.below hb
      have hm8 := hI8.m
      have hB8 := hI8.bel
      have hs1 := sl_string Try.underlying26 Try.underlying5 Try.underlying9 hx8
      have hs2 := sl_string Try.underlying26 Try.underlying5 Try.underlying9 hm8
      clear hrt7 hI7 hI8 hb hx7 hx8 hm8 hX6 hX7 e0 e1
      go_wp2
      go_ret
      exact ⟨rfl, hB8⟩
    · have hgz : g = ⟨[], []⟩ := by have := decode_bad (bs := bs) (by rw [HG.out]; exact he); rw [HG.out] at this; exact this
      have heb : (ge != 0) = true := by simpa using he
      subst hgz
      obtain rfl : n5 = 0 := hgL.len.1
      obtain rfl : n5' = 0 := hgS.len.1
      clear he hgL hgS hI5
      go_wp2
      go_ret
      exact ⟨rfl, below_alloc hB5 _⟩
  · obtain ⟨hl5, hl6⟩ := encF_len HRT.out
    have hdx := decode_to2 _ _ f 0 (decode_encode HRT.out) w4 hx4 (by unfold maxLen; omega)
    clear hl5 hl6
    go_wp2_with fail
    refine hdx.mono ?_
    rintro x w5 ⟨A5, n5, c5, A5', n5', c5', rfl, hgL, hgS, hb⟩
    have hal : Below w5.heap.size w5 (w5.alloc (.cells #[.slice A5 n5 c5, .slice A5' n5' c5'] 25)) := (Below.refl _ _).alloc (Nat.le_refl _) _
    have hI5 := (hI4.step hb).step hal
    obtain ⟨d0, d1, dl⟩ := hI5.cells
    have hsm := same14 _ _ _ _ f _ hI5.l hI5.s (hgL.below hal) (hgS.below hal) hf.l hf.s hf.r
    clear hdx hgL hgS hal hI4 hb hx4
    go_wp2_with fail
    refine hsm.mono ?_
    rintro x wk ⟨rfl, hb⟩
    have hIk := hI5.step hb
    clear hsm hI5 hb d0 d1 dl

    have hIk' := hIk
    obtain ⟨d0, d1, dl⟩ := hIk'.cells
    clear hIk'
    have hdb := decode_to2 _ bs g ge HG.out wk hIk.m HML.out
    go_wp2_with fail
    refine hdb.mono ?_
    rintro x w5 ⟨A5, n5, c5, A5', n5', c5', rfl, hgL, hgS, hb⟩
    have hI5 := hIk.step hb
    have hB5 := hI5.bel
    have hal : Below w5.heap.size w5 (w5.alloc (.cells #[.slice A5 n5 c5, .slice A5' n5' c5'] 25)) := (Below.refl _ _).alloc (Nat.le_refl _) _
    clear hdb hIk hb d0 d1 dl
    by_cases he : ge = 0
    · subst he
      have hgr : g.right = true := by have := decode_read (bs := bs) (by rw [HG.out]); rw [HG.out] at this; exact this.1
      have hge : encF g = bs := by have := decode_read (bs := bs) (by rw [HG.out]); rw [HG.out] at this; exact this.2
      have hgf := right_facts hgr
      have hgL5 := hgL.below hal
      have hgS5 := hgS.below hal
      have hI6 := hI5.step hal
      have hX6 := Blk.new w5 25 #[.slice A5 n5 c5, .slice A5' n5' c5']
      have henc := encode_to _ _ g true hgr _ hgL5 hgS5 (by unfold maxLen; omega) (by unfold maxLen; omega)
      rw [if_pos rfl, hge] at henc
      have hg16 : g.links.length ≤ maxLen := by unfold maxLen; omega
      have hg64 : g.subs.length ≤ maxLen := by unfold maxLen; omega
      have HGR := Aside.mk hgr
      have HG6 := Aside.mk hg16
      have HG7 := Aside.mk hg64
      clear hgr hge hgf hI5 hB5 hgL hgS hg16 hg64
      go_wp2_with fail
      refine henc.mono ?_
      rintro x w7 ⟨A7, n7, c7, rfl, hx7, hb⟩
      have hI7 := hI6.step hb
      have hX7 := hX6.below hb hX6.lt
      have e0 := hX7.cell 0
      have e1 := hX7.cell 1
      have el := hX6.lt
      simp only [List.getElem?_toArray, List.getElem?_cons_zero, List.getElem?_cons_succ] at e0 e1
      have hrt7 := right15 _ _ g w7 (hgL5.below hb) (hgS5.below hb) HG6.out HG7.out
      rw [HGR.out] at hrt7
      clear henc hI6 hb hgL5 hgS5
      go_wp2_with fail
      refine hrt7.mono ?_
      rintro x w8 ⟨rfl, hb⟩
      have hI8 := hI7.step hb
      have hx8 := hx7.below hb
      have hm8 := hI8.m
      have hB8 := hI8.bel
      have hs1 := sl_string Try.underlying26 Try.underlying5 Try.underlying9 hx8
      have hs2 := sl_string Try.underlying26 Try.underlying5 Try.underlying9 hm8
      clear hrt7 hI7 hI8 hb hx7 hx8 hm8 hX6 hX7 e0 e1
      go_wp2
      go_ret
      exact ⟨rfl, hB8⟩
    · have hgz : g = ⟨[], []⟩ := by have := decode_bad (bs := bs) (by rw [HG.out]; exact he); rw [HG.out] at this; exact this
      have heb : (ge != 0) = true := by simpa using he
      subst hgz
      obtain rfl : n5 = 0 := hgL.len.1
      obtain rfl : n5' = 0 := hgS.len.1
      clear he hgL hgS hI5
      go_wp2
      go_ret
      exact ⟨rfl, below_alloc hB5 _⟩
end Go.Proofs.Ytamaihlpdebekaa
