/- rosetteref15.Encode, whole; rosettelaw15.FirstCodes: the walk. -/
import Derived.Test.YtamaihlpdebekaaGG
import Derived.Test.YtamaihlpdebekaaGF
import Derived.Test.YtamaihlpdebekaaFT
namespace Go.Proofs.Ytamaihlpdebekaa
open Go.RowKit
set_option linter.unusedVariables false
set_option linter.unusedSimpArgs false

set_option maxHeartbeats 1000000 in
theorem encode11 (vL vS : Value) (f : First) (w : World) (hL : enI64.Rd w vL f.links) (hS : enSub.Rd w vS f.subs) (hnL : f.links.length ≤ maxLen) (hnS : f.subs.length ≤ maxLen) (hnR : ∀ s ∈ f.subs, s.ranges.length ≤ maxLen) :
    Calls Try.prog 11 #[.agg #[vL, vS]] w (EncPost w f) := by
  cases hrt : f.right
  · obtain ⟨AL, cL, rfl, hlL⟩ := hL.form
    obtain ⟨AS, cS, rfl, hlS⟩ := hS.form
    have HP : EncPost w f = fun e w' => ∃ v, e = .returned (.tuple #[v, .bool false]) ∧ OwnB 5 w' w.heap.size v [] ∧ Below w.heap.size w w' := by
      funext e w'
      unfold EncPost
      rw [hrt, if_neg (by decide)]
    rw [HP]
    clear HP
    have hB0 : Below w.heap.size w (w.alloc (.cells #[.slice AL f.links.length cL, .slice AS f.subs.length cS] 25)) := (Below.refl _ _).alloc (Nat.le_refl _) _
    have hright := right16 _ _ f _ (hL.below hB0) (hS.below hB0) hnL hnS hnR
    rw [hrt] at hright
    clear hL hS hrt hnL hnS hnR
    generalize f.links.length = nL at *
    generalize f.subs.length = nS at *
    go_enter Try.func11, Try.ntmps11
    go_wp2_with fail
    refine hright.mono ?_
    rintro e w1 ⟨rfl, hb1⟩
    go_wp2
    go_ret2
    exact ⟨_, rfl, World.ownsRow_nil _ _ _ _, below_step hB0 hb1⟩
  · obtain ⟨h16, h64, hl, hs⟩ := right_facts hrt
    obtain ⟨AL, cL, rfl, hlL⟩ := hL.form
    obtain ⟨AS, cS, rfl, hlS⟩ := hS.form
    obtain ⟨links, subs⟩ := f
    exact refenc_yes AL cL links.length AS cS subs.length links subs w hL hS h16 h64 ⟨rfl⟩ ⟨rfl⟩ (fun s hs' => (ok_ranges (subsOk_mem hs s hs').1).1) (fun s hs' r hr => by have := (ok_ranges (subsOk_mem hs s hs').1).2.2 r hr; omega) hrt
theorem encode_ref (vL vS : Value) (f : First) (b : Bool) (hr : f.right = b) (w : World) (hL : enI64.Rd w vL f.links) (hS : enSub.Rd w vS f.subs) (hnL : f.links.length ≤ maxLen) (hnS : f.subs.length ≤ maxLen) (hnR : ∀ s ∈ f.subs, s.ranges.length ≤ maxLen) :
    Calls Try.prog 11 #[.agg #[vL, vS]] w fun e w' => ∃ A n c, e = .returned (.tuple #[.slice A n c, .bool b]) ∧ enU8.Rd w' (.slice A n c) (if b then encF f else []) ∧ Below w.heap.size w w' := by
  refine (encode11 vL vS f w hL hS hnL hnS hnR).mono ?_
  rw [hr.symm]
  rintro e w' ⟨v, rfl, ho, hB⟩
  obtain ⟨A, c, rfl, _⟩ := own_slice ho
  exact ⟨A, _, c, rfl, ho.rd, hB⟩
theorem decode_ref (v : Value) (bs : List UInt8) (f : First) (x : Int) (hr : decodeF bs = (f, x)) (w : World) (hb : enU8.Rd w v bs) (hl : bs.length ≤ maxLen) :
    Calls Try.prog 13 #[v] w fun e w' => ∃ A n c A' n' c', e = .returned (.tuple #[.agg #[.slice A n c, .slice A' n' c'], .int .i64 x]) ∧ enI64.Rd w' (.slice A n c) f.links ∧ enSub.Rd w' (.slice A' n' c') f.subs ∧ Below w.heap.size w w' := by
  refine (decode13 v bs w hb hl).mono ?_
  rw [hr]
  rintro e w' ⟨vL, vS, rfl, hL, hS, hB⟩
  obtain ⟨A, c, rfl, _⟩ := hL.form
  obtain ⟨A', c', rfl, _⟩ := hS.form
  exact ⟨A, _, c, A', _, c', rfl, hL, hS, hB⟩


theorem decode_len {bs : List UInt8} {g : First} {e : Int} (h : decodeF bs = (g, e)) : g.links.length ≤ maxLen ∧ g.subs.length ≤ maxLen ∧ ∀ s ∈ g.subs, s.ranges.length ≤ maxLen := by
  by_cases he : e = 0
  · subst he
    have hr := (decode_read (bs := bs) (by rw [h])).1
    rw [h] at hr
    replace hr : g.right = true := hr
    obtain ⟨h16, h64, _, hs⟩ := right_facts hr
    refine ⟨by unfold maxLen; omega, by unfold maxLen; omega, fun s hs' => ?_⟩
    have := (ok_ranges (subsOk_mem hs s hs').1).1
    unfold maxLen; omega
  · have := decode_bad (bs := bs) (by rw [h]; exact he)
    rw [h] at this
    obtain rfl : g = ⟨[], []⟩ := this
    simp

structure C3 (w0 : World) (vL vS vm : Value) (f : First) (more : List UInt8) (g : First) (X Y : Nat) (a0 a1 b0 b1 : Value) (A B : Option Addr) (n c n' c' : Nat) (xb : List UInt8) (w : World) : Prop where
  i : CutInv w0 vL vS vm f more w
  gL : enI64.Rd w a0 g.links
  gS : enSub.Rd w a1 g.subs
  hL : enI64.Rd w b0 g.links
  hS : enSub.Rd w b1 g.subs
  x : Blk w X 25 #[a0, a1]
  y : Blk w Y 25 #[b0, b1]
  p : enU8.Rd w (.slice A n c) xb
  q : enU8.Rd w (.slice B n' c') xb
theorem C3.step {w0 : World} {vL vS vm : Value} {f : First} {more : List UInt8} {g : First} {X Y : Nat} {a0 a1 b0 b1 : Value} {A B : Option Addr} {n c n' c' : Nat} {xb : List UInt8} {w w' : World} (h : C3 w0 vL vS vm f more g X Y a0 a1 b0 b1 A B n c n' c' xb w) (hb : Below w.heap.size w w') : C3 w0 vL vS vm f more g X Y a0 a1 b0 b1 A B n c n' c' xb w' :=
  ⟨h.i.step hb, h.gL.below hb, h.gS.below hb, h.hL.below hb, h.hS.below hb, h.x.below hb h.x.lt, h.y.below hb h.y.lt, h.p.below hb, h.q.below hb⟩
theorem C3.cells {w0 : World} {vL vS vm : Value} {f : First} {more : List UInt8} {g : First} {X Y : Nat} {a0 a1 b0 b1 : Value} {A B : Option Addr} {n c n' c' : Nat} {xb : List UInt8} {w : World} (h : C3 w0 vL vS vm f more g X Y a0 a1 b0 b1 A B n c n' c' xb w) :
    w.cell? ⟨w0.heap.size, 0, none⟩ = some vL ∧ w.cell? ⟨w0.heap.size, 1, none⟩ = some vS ∧ w.cell? ⟨X, 0, none⟩ = some a0 ∧ w.cell? ⟨X, 1, none⟩ = some a1 ∧ w.cell? ⟨Y, 0, none⟩ = some b0 ∧ w.cell? ⟨Y, 1, none⟩ = some b1 ∧
    (convert 26 9 (.slice A n c)).run Try.prog w = .ok (.string ⟨xb.toArray⟩) w ∧ (convert 26 9 (.slice B n' c')).run Try.prog w = .ok (.string ⟨xb.toArray⟩) w :=
  ⟨h.i.cells.1, h.i.cells.2.1, (h.x.cell 0).trans rfl, (h.x.cell 1).trans rfl, (h.y.cell 0).trans rfl, (h.y.cell 1).trans rfl, sl_string Try.underlying26 Try.underlying5 Try.underlying9 h.p, sl_string Try.underlying26 Try.underlying5 Try.underlying9 h.q⟩

set_option maxHeartbeats 4000000 in
set_option maxRecDepth 100000 in
theorem codes3 (vL vS vb : Value) (f : First) (bs : List UInt8) (w : World) (hL : enI64.Rd w vL f.links) (hS : enSub.Rd w vS f.subs) (hm : enU8.Rd w vb bs) (hf : Fits f) (hml : bs.length ≤ maxLen) :
    Calls Try.prog 3 #[.agg #[vL, vS], vb] w fun x w' => x = .returned (.bool true) ∧ Below w.heap.size w w' := by
  have hX : Below w.heap.size w (w.alloc (.cells #[vL, vS] 25)) := (Below.refl _ _).alloc (Nat.le_refl _) _
  have hI0 : CutInv w vL vS vb f bs (w.alloc (.cells #[vL, vS] 25)) := ⟨hL.below hX, hS.below hX, hm.below hX, Blk.new _ _ _, hX⟩
  obtain ⟨AL, cL, rfl, _⟩ := hL.form
  obtain ⟨AS, cS, rfl, _⟩ := hS.form
  obtain ⟨Am, cm, rfl, hmc⟩ := hm.form
  clear hL hS hm hX
  obtain ⟨m, hM⟩ : ∃ m, m = bs.length := ⟨_, rfl⟩
  rw [← hM] at hI0 hmc ⊢
  have HM := Aside.mk hM
  have HML := Aside.mk hml
  rw [← hM] at hml
  clear hM
  unfold maxLen at hml
  go_enter Try.func3, Try.ntmps3
  go_wp2_with fail
  refine (small8 _).mono ?_
  rintro x w1 ⟨rfl, hb⟩
  have hI1 := hI0.step hb
  obtain ⟨d0, d1, dl⟩ := hI1.cells
  clear hI0 hb
  go_wp2_with fail
  refine (few9 _ _ f w1 hI1.l hI1.s hf.l hf.s hf.r).mono ?_
  rintro x w2 ⟨q, rfl, hb⟩
  have hI2 := hI1.step hb
  obtain ⟨d0, d1, dl⟩ := hI2.cells
  have hB2 := hI2.bel
  clear hI1 hb
  cases q
  · go_wp2
    go_ret
    exact ⟨rfl, hB2⟩
  by_cases hm2 : 2000 < m
  · go_wp2
    go_ret
    exact ⟨rfl, hB2⟩
  obtain ⟨rt, hrt⟩ : ∃ b, f.right = b := ⟨_, rfl⟩
  have henc := encode_to _ _ f rt hrt w2 hI2.l hI2.s hf.l hf.s
  have HRT := Aside.mk hrt
  clear hrt
  go_wp2_with fail
  refine henc.mono ?_
  rintro x w3 ⟨A3, n3, c3, rfl, hx3, hb⟩
  have hI3 := hI2.step hb
  obtain ⟨d0, d1, dl⟩ := hI3.cells
  have henc2 := encode_ref _ _ f rt HRT.out w3 hI3.l hI3.s hf.l hf.s hf.r
  clear hI2 hb henc
  go_wp2_with fail
  refine henc2.mono ?_
  rintro x w4 ⟨A4, n4, c4, rfl, hy4, hb⟩
  have hI4 := hI3.step hb
  obtain ⟨d0, d1, dl⟩ := hI4.cells
  have hx4 := hx3.below hb
  clear hI3 hb henc2 hx3
  obtain ⟨g, ge, HG⟩ : ∃ g ge, Aside (decodeF bs = (g, ge)) := ⟨_, _, ⟨rfl⟩⟩
  have hdb := decode_to2 _ bs g ge HG.out w4 hI4.m HML.out
  go_wp2_with fail
  refine hdb.mono ?_
  rintro x w5 ⟨A5, n5, c5, A5', n5', c5', rfl, hgL, hgS, hb⟩
  have hal : Below w5.heap.size w5 (w5.alloc (.cells #[.slice A5 n5 c5, .slice A5' n5' c5'] 25)) := (Below.refl _ _).alloc (Nat.le_refl _) _
  have hI6 := (hI4.step hb).step hal
  have hx6 := (hx4.below hb).below hal
  have hy6 := (hy4.below hb).below hal
  have hgL6 := hgL.below hal
  have hgS6 := hgS.below hal
  have hX6 := Blk.new w5 25 #[.slice A5 n5 c5, .slice A5' n5' c5']
  have hdr := decode_ref _ bs g ge HG.out _ hI6.m HML.out
  obtain ⟨d0, d1, dl⟩ := hI6.cells
  clear hdb hI4 hx4 hy4 hgL hgS hal hb
  go_wp2_with fail
  refine hdr.mono ?_
  rintro x w7 ⟨A7, n7, c7, A7', n7', c7', rfl, hhL, hhS, hb⟩
  have hal : Below w7.heap.size w7 (w7.alloc (.cells #[.slice A7 n7 c7, .slice A7' n7' c7'] 25)) := (Below.refl _ _).alloc (Nat.le_refl _) _
  have hI8 := (hI6.step hb).step hal
  have hx8 := (hx6.below hb).below hal
  have hy8 := (hy6.below hb).below hal
  have hgL8 := (hgL6.below hb).below hal
  have hgS8 := (hgS6.below hb).below hal
  have hhL8 := hhL.below hal
  have hhS8 := hhS.below hal
  have hX8 := (hX6.below hb hX6.lt).below hal (hX6.below hb hX6.lt).lt
  have hY8 := Blk.new w7 25 #[.slice A7 n7 c7, .slice A7' n7' c7']
  clear hdr hI6 hx6 hy6 hgL6 hgS6 hhL hhS hX6 hal hb d0 d1 dl
  go_wp2_with fail
  have hC0 := (C3.mk hI8 hgL8 hgS8 hhL8 hhS8 hX8 hY8 hx8 hy8).step (below_drew (Below.refl _ _))
  have hk0 := hC0.cells
  obtain ⟨q1, q2, q3⟩ := decode_len HG.out
  have Q1 := Aside.mk q1
  have Q2 := Aside.mk q2
  have Q3 := Aside.mk q3
  clear hI8 hgL8 hgS8 hhL8 hhS8 hX8 hY8 hx8 hy8 q1 q2 q3
  generalize (if rt = true then encF f else []) = xb at *
  generalize w5.heap.size = X at *
  generalize w7.heap.size = Y at *
  go_region_held3 (fun w' => w'.cell? ⟨w.heap.size, 0, none⟩ = some (.slice AL f.links.length cL) ∧ w'.cell? ⟨w.heap.size, 1, none⟩ = some (.slice AS f.subs.length cS) ∧ w'.cell? ⟨X, 0, none⟩ = some (.slice A5 n5 c5) ∧ w'.cell? ⟨X, 1, none⟩ = some (.slice A5' n5' c5') ∧ w'.cell? ⟨Y, 0, none⟩ = some (.slice A7 n7 c7) ∧ w'.cell? ⟨Y, 1, none⟩ = some (.slice A7' n7' c7') ∧ (convert 26 9 (.slice A3 n3 c3)).run Try.prog w' = .ok (.string ⟨xb.toArray⟩) w' ∧ (convert 26 9 (.slice A4 n4 c4)).run Try.prog w' = .ok (.string ⟨xb.toArray⟩) w')
    (first | exact hk3 | exact hk2 | exact hk1 | exact hk0 | go_keep)
    (first
      | (go_at_call 14; (refine (same14 _ _ _ _ g _ hC0.gL hC0.gS hC0.hL hC0.hS Q1.out Q2.out Q3.out).mono ?_); rintro e wa ⟨rfl, hb⟩; have hC1 := hC0.step hb; have hk1 := hC1.cells)
      | (go_at_call 15; (refine (right15 _ _ f _ hC1.i.l hC1.i.s hf.l hf.s).mono ?_); rw [HRT.out]; rintro e wb ⟨rfl, hb⟩; have hC2 := hC1.step hb; have hk2 := hC2.cells)
      | (go_at_call 16; (refine (right16 _ _ f _ hC2.i.l hC2.i.s hf.l hf.s hf.r).mono ?_); rw [HRT.out]; rintro e wc ⟨rfl, hb⟩; have hC3 := hC2.step hb; have hk3 := hC3.cells))
  all_goals
    have hB := hC3.i.bel
    go_wp2
    go_ret
    exact ⟨by simp, hB⟩
end Go.Proofs.Ytamaihlpdebekaa
