/- rosettelaw15.FirstMeans: the walk. -/
import Derived.Test.YtamaihlpdebekaaGJ
import Derived.Test.YtamaihlpdebekaaFO
import Derived.Test.YtamaihlpdebekaaFP
namespace Go.Proofs.Ytamaihlpdebekaa
open Go.RowKit
set_option linter.unusedVariables false
set_option linter.unusedSimpArgs false

structure MnInv (w0 : World) (vL vS ve vr : Value) (f : First) (e : List Attr) (l : List Rng) (w : World) : Prop where
  lk : enI64.Rd w vL f.links
  s : enSub.Rd w vS f.subs
  e : enAttr.Rd w ve e
  r : enRng.Rd w vr l
  b : Blk w w0.heap.size 25 #[vL, vS]
  bel : Below w0.heap.size w0 w
theorem MnInv.step {w0 : World} {vL vS ve vr : Value} {f : First} {e : List Attr} {l : List Rng} {w w' : World} (h : MnInv w0 vL vS ve vr f e l w) (hb : Below w.heap.size w w') : MnInv w0 vL vS ve vr f e l w' :=
  ⟨h.lk.below hb, h.s.below hb, h.e.below hb, h.r.below hb, h.b.below hb h.b.lt, below_step h.bel hb⟩
theorem MnInv.cells {w0 : World} {vL vS ve vr : Value} {f : First} {e : List Attr} {l : List Rng} {w : World} (h : MnInv w0 vL vS ve vr f e l w) :
    w.cell? ⟨w0.heap.size, 0, none⟩ = some vL ∧ w.cell? ⟨w0.heap.size, 1, none⟩ = some vS :=
  ⟨(h.b.cell 0).trans rfl, (h.b.cell 1).trans rfl⟩

set_option maxHeartbeats 4000000 in
set_option maxRecDepth 100000 in
theorem means4 (vL vS ve vr : Value) (f : First) (e : List Attr) (from_ : Int) (l : List Rng) (w : World) (hL : enI64.Rd w vL f.links) (hS : enSub.Rd w vS f.subs) (he : enAttr.Rd w ve e) (hr : enRng.Rd w vr l) (hf : Fits f) (hen : e.length ≤ maxLen) (hln : l.length ≤ maxLen) :
    Calls Try.prog 4 #[.agg #[vL, vS], ve, .int .i64 from_, vr] w fun x w' => x = .returned (.bool true) ∧ Below w.heap.size w w' := by
  have hX : Below w.heap.size w (w.alloc (.cells #[vL, vS] 25)) := (Below.refl _ _).alloc (Nat.le_refl _) _
  have hI0 : MnInv w vL vS ve vr f e l (w.alloc (.cells #[vL, vS] 25)) := ⟨hL.below hX, hS.below hX, he.below hX, hr.below hX, Blk.new _ _ _, hX⟩
  obtain ⟨AL, cL, rfl, _⟩ := hL.form
  obtain ⟨AS, cS, rfl, _⟩ := hS.form
  obtain ⟨Ae, ce, rfl, _⟩ := he.form
  obtain ⟨Ar, cr, rfl, _⟩ := hr.form
  clear hL hS he hr hX
  have HEN := Aside.mk hen
  have HLN := Aside.mk hln
  clear hen hln
  go_enter Try.func4, Try.ntmps4
  go_wp2_with fail
  refine (small8 _).mono ?_
  rintro x w1 ⟨rfl, hb⟩
  have hI1 := hI0.step hb
  obtain ⟨d0, d1⟩ := hI1.cells
  clear hI0 hb
  go_wp2_with fail
  refine (few9 _ _ f w1 hI1.lk hI1.s hf.l hf.s hf.r).mono ?_
  rintro x w2 ⟨q1, rfl, hb⟩
  have hI2 := hI1.step hb
  clear hI1 hb d0 d1
  go_wp2_with fail
  refine (few17 _ e w2 hI2.e HEN.out).mono ?_
  rintro x w3 ⟨q2, rfl, hb⟩
  have hI3 := hI2.step hb
  clear hI2 hb
  have hal : Below w3.heap.size w3 (w3.alloc (.cells #[.int .i64 0, .int .i64 0, .slice Ar l.length cr] 40)) := (Below.refl _ _).alloc (Nat.le_refl _) _
  have hI4 := hI3.step hal
  have hS4 : enSub.Rd (w3.alloc (.cells #[.int .i64 0, .int .i64 0, .slice Ar l.length cr] 40)) (.slice (some ⟨w3.heap.size, 0, none⟩) 1 1) [⟨0, 0, l⟩] := blk_sl (Blk.new w3 40 #[.int .i64 0, .int .i64 0, .slice Ar l.length cr]) rfl (by decide) (by simp) (fun i x hi => by
    have hi' : i = 0 := by
      rcases i with _ | i
      · rfl
      · simp at hi
    subst hi'
    obtain rfl : x = ⟨0, 0, l⟩ := by simpa using hi.symm
    exact ⟨_, enSub_make hI4.r, fun j u hj => by simpa using hj⟩)
  have hfew := few9 (.slice none 0 0) _ ⟨[], [⟨0, 0, l⟩]⟩ _ (En.Rd.nil enI64 _ none 0) hS4 (by unfold maxLen; simp) (by unfold maxLen; simp) (by
    intro s hs
    obtain rfl := List.mem_singleton.1 hs
    exact HLN.out)
  clear hI3 hal hS4
  go_wp2_with fail
  refine hfew.mono ?_
  rintro x w5 ⟨q3, rfl, hb⟩
  have hI5 := hI4.step hb
  have hB5 := hI5.bel
  clear hI4 hfew hb
  cases q1
  · go_wp2
    go_ret
    exact ⟨rfl, hB5⟩
  cases q2
  · go_wp2
    go_ret
    exact ⟨rfl, hB5⟩
  cases q3
  · go_wp2
    go_ret
    exact ⟨rfl, hB5⟩
  have hm1 := meets18 _ _ l e w5 hI5.r hI5.e HLN.out HEN.out
  generalize hbm : fmeets l e = bm at *
  have HBM := Aside.mk hbm
  clear hbm
  go_wp2_with fail
  refine hm1.mono ?_
  rintro x w6 ⟨rfl, hb⟩
  have hI6 := hI5.step hb
  have hm2 := meets19 _ _ l e w6 hI6.r hI6.e HLN.out HEN.out
  rw [HBM.out] at hm2
  clear hI5 hb hm1 hB5
  go_wp2_with fail
  refine hm2.mono ?_
  rintro x w7 ⟨rfl, hb⟩
  have hI7 := (hI6.step hb).step (below_drew (Below.refl _ _))
  have hk7 := hI7.cells
  clear hI6 hb hm2
  obtain ⟨rt, hrt⟩ : ∃ b, f.right = b := ⟨_, rfl⟩
  have HRT := Aside.mk hrt
  clear hrt HBM
  have hlen : (fnext f e from_).length ≤ f.links.length := List.length_filter_le _ _
  have HLF := Aside.mk (Nat.le_trans hlen hf.l)
  have hl2 := Aside.mk hf.l2
  clear hlen
  cases rt
  · go_wp2_with fail
    refine wp_region_held_drew (S := (fun w' => w'.cell? ⟨w.heap.size, 0, none⟩ = some (.slice AL f.links.length cL) ∧ w'.cell? ⟨w.heap.size, 1, none⟩ = some (.slice AS f.subs.length cS))) (by kernel_rfl) hk7 (fun hHeld => ?_)
    refine wpAnyH_take (i := 0) (oi := _) (v := ?_) rfl (by kernel_rfl) (by kernel_rfl) (by kernel_rfl) (fun _ _ _ h => h) (Or.inl ⟨by rfl, ?_⟩) (by assumption) ?_
    rotate_left
    · intro w hSw; (try dsimp only at hSw); go_simp <;> rfl
    try simp only [Act.put, List.setIfInBounds_toArray, List.set_cons_zero, List.set_cons_succ, List.getElem_toArray, List.getElem_cons_zero, List.getElem_cons_succ]
    refine wpAnyH_take (i := 1) (oi := _) (v := ?_) rfl (by kernel_rfl) (by kernel_rfl) (by kernel_rfl) (fun _ _ _ h => h) (Or.inl ⟨by rfl, ?_⟩) (by assumption) ?_
    rotate_left
    · intro w hSw; (try dsimp only at hSw); go_simp <;> rfl
    try simp only [Act.put, List.setIfInBounds_toArray, List.set_cons_zero, List.set_cons_succ, List.getElem_toArray, List.getElem_cons_zero, List.getElem_cons_succ]
    refine wpAnyH_take (i := 2) (oi := _) (v := ?_) rfl (by kernel_rfl) (by kernel_rfl) (by kernel_rfl) (fun _ _ _ h => h) (Or.inl ⟨by rfl, ?_⟩) (by assumption) ?_
    rotate_left
    · intro w hSw; (try dsimp only at hSw); go_simp <;> rfl
    try simp only [Act.put, List.setIfInBounds_toArray, List.set_cons_zero, List.set_cons_succ, List.getElem_toArray, List.getElem_cons_zero, List.getElem_cons_succ]
    refine wpAnyH_ready (rs := [3]) (by kernel_rfl) (by simp) ?_
    refine AllReadyH.cons (o := _) rfl (fun K hK => ?_) AllReadyH.nil
    go_simp
    go_at_call 15; (refine (right15 _ _ f _ hI7.lk hI7.s hf.l hf.s).mono ?_); rw [HRT.out]; rintro e wb ⟨rfl, hb⟩; have hI8 := hI7.step hb; have hk8 := hI8.cells
    refine hK.out _ _ hk8 (fun hHeld => ?_)
    clear hK K
    try simp only [Act.put, List.setIfInBounds_toArray, List.set_cons_zero, List.set_cons_succ, List.getElem_toArray, List.getElem_cons_zero, List.getElem_cons_succ]
    refine wpAnyH_take (i := 4) (oi := _) (v := ?_) rfl (by kernel_rfl) (by kernel_rfl) (by kernel_rfl) (fun _ _ _ h => h) (Or.inl ⟨by rfl, ?_⟩) (by assumption) ?_
    rotate_left
    · intro w hSw; (try dsimp only at hSw); go_simp <;> rfl
    try simp only [Act.put, List.setIfInBounds_toArray, List.set_cons_zero, List.set_cons_succ, List.getElem_toArray, List.getElem_cons_zero, List.getElem_cons_succ]
    refine wpAnyH_take (i := 5) (oi := _) (v := ?_) rfl (by kernel_rfl) (by kernel_rfl) (by kernel_rfl) (fun _ _ _ h => h) (Or.inl ⟨by rfl, ?_⟩) (by assumption) ?_
    rotate_left
    · intro w hSw; (try dsimp only at hSw); go_simp <;> rfl
    try simp only [Act.put, List.setIfInBounds_toArray, List.set_cons_zero, List.set_cons_succ, List.getElem_toArray, List.getElem_cons_zero, List.getElem_cons_succ]
    refine wpAnyH_take (i := 6) (oi := _) (v := undef) rfl (by kernel_rfl) (by kernel_rfl) (by kernel_rfl) (fun _ _ _ h => h) (Or.inr ⟨by rfl, rfl⟩) (by assumption) ?_
    try simp only [Act.put, List.setIfInBounds_toArray, List.set_cons_zero, List.set_cons_succ, List.getElem_toArray, List.getElem_cons_zero, List.getElem_cons_succ]
    refine wpAnyH_take (i := 7) (oi := _) (v := undef) rfl (by kernel_rfl) (by kernel_rfl) (by kernel_rfl) (fun _ _ _ h => h) (Or.inr ⟨by rfl, rfl⟩) (by assumption) ?_
    try simp only [Act.put, List.setIfInBounds_toArray, List.set_cons_zero, List.set_cons_succ, List.getElem_toArray, List.getElem_cons_zero, List.getElem_cons_succ]
    refine wpAnyH_take (i := 8) (oi := _) (v := undef) rfl (by kernel_rfl) (by kernel_rfl) (by kernel_rfl) (fun _ _ _ h => h) (Or.inr ⟨by rfl, rfl⟩) (by assumption) ?_
    try simp only [Act.put, List.setIfInBounds_toArray, List.set_cons_zero, List.set_cons_succ, List.getElem_toArray, List.getElem_cons_zero, List.getElem_cons_succ]
    refine wpAnyH_take (i := 9) (oi := _) (v := undef) rfl (by kernel_rfl) (by kernel_rfl) (by kernel_rfl) (fun _ _ _ h => h) (Or.inr ⟨by rfl, rfl⟩) (by assumption) ?_
    try simp only [Act.put, List.setIfInBounds_toArray, List.set_cons_zero, List.set_cons_succ, List.getElem_toArray, List.getElem_cons_zero, List.getElem_cons_succ]
    refine wpAnyH_take (i := 10) (oi := _) (v := undef) rfl (by kernel_rfl) (by kernel_rfl) (by kernel_rfl) (fun _ _ _ h => h) (Or.inr ⟨by rfl, rfl⟩) (by assumption) ?_
    try simp only [Act.put, List.setIfInBounds_toArray, List.set_cons_zero, List.set_cons_succ, List.getElem_toArray, List.getElem_cons_zero, List.getElem_cons_succ]
    refine wpAnyH_take (i := 11) (oi := _) (v := undef) rfl (by kernel_rfl) (by kernel_rfl) (by kernel_rfl) (fun _ _ _ h => h) (Or.inr ⟨by rfl, rfl⟩) (by assumption) ?_
    try simp only [Act.put, List.setIfInBounds_toArray, List.set_cons_zero, List.set_cons_succ, List.getElem_toArray, List.getElem_cons_zero, List.getElem_cons_succ]
    refine wpAnyH_take (i := 12) (oi := _) (v := undef) rfl (by kernel_rfl) (by kernel_rfl) (by kernel_rfl) (fun _ _ _ h => h) (Or.inr ⟨by rfl, rfl⟩) (by assumption) ?_
    try simp only [Act.put, List.setIfInBounds_toArray, List.set_cons_zero, List.set_cons_succ, List.getElem_toArray, List.getElem_cons_zero, List.getElem_cons_succ]
    refine wpAnyH_take (i := 13) (oi := _) (v := undef) rfl (by kernel_rfl) (by kernel_rfl) (by kernel_rfl) (fun _ _ _ h => h) (Or.inr ⟨by rfl, rfl⟩) (by assumption) ?_
    try simp only [Act.put, List.setIfInBounds_toArray, List.set_cons_zero, List.set_cons_succ, List.getElem_toArray, List.getElem_cons_zero, List.getElem_cons_succ]
    refine wpAnyH_take (i := 14) (oi := _) (v := undef) rfl (by kernel_rfl) (by kernel_rfl) (by kernel_rfl) (fun _ _ _ h => h) (Or.inr ⟨by rfl, rfl⟩) (by assumption) ?_
    try simp only [Act.put, List.setIfInBounds_toArray, List.set_cons_zero, List.set_cons_succ, List.getElem_toArray, List.getElem_cons_zero, List.getElem_cons_succ]
    refine wpAnyH_take (i := 15) (oi := _) (v := ?_) rfl (by kernel_rfl) (by kernel_rfl) (by kernel_rfl) (fun _ _ _ h => h) (Or.inl ⟨by rfl, ?_⟩) (by assumption) ?_
    rotate_left
    · intro w hSw; (try dsimp only at hSw); go_simp <;> rfl
    try simp only [Act.put, List.setIfInBounds_toArray, List.set_cons_zero, List.set_cons_succ, List.getElem_toArray, List.getElem_cons_zero, List.getElem_cons_succ]
    refine wpAnyH_take (i := 16) (oi := _) (v := ?_) rfl (by kernel_rfl) (by kernel_rfl) (by kernel_rfl) (fun _ _ _ h => h) (Or.inl ⟨by rfl, ?_⟩) (by assumption) ?_
    rotate_left
    · intro w hSw; (try dsimp only at hSw); go_simp <;> rfl
    try simp only [Act.put, List.setIfInBounds_toArray, List.set_cons_zero, List.set_cons_succ, List.getElem_toArray, List.getElem_cons_zero, List.getElem_cons_succ]
    refine wpAnyH_take (i := 17) (oi := _) (v := ?_) rfl (by kernel_rfl) (by kernel_rfl) (by kernel_rfl) (fun _ _ _ h => h) (Or.inl ⟨by rfl, ?_⟩) (by assumption) ?_
    rotate_left
    · intro w hSw; (try dsimp only at hSw); go_simp <;> rfl
    try simp only [Act.put, List.setIfInBounds_toArray, List.set_cons_zero, List.set_cons_succ, List.getElem_toArray, List.getElem_cons_zero, List.getElem_cons_succ]
    refine wpAnyH_done (by kernel_rfl) ?_ _
    all_goals
      have hB := hI8.bel
      go_wp2
      go_ret
      exact ⟨rfl, hB⟩
  · go_wp2_with fail
    go_region_held3 (fun w' => w'.cell? ⟨w.heap.size, 0, none⟩ = some (.slice AL f.links.length cL) ∧ w'.cell? ⟨w.heap.size, 1, none⟩ = some (.slice AS f.subs.length cS))
      (first | exact hk11 | exact hk10 | exact hk9 | exact hk8 | exact hk7 | go_keep)
      (first
        | (go_at_call 15; (refine (right15 _ _ f _ hI7.lk hI7.s hf.l hf.s).mono ?_); rw [HRT.out]; rintro e wb ⟨rfl, hb⟩; have hI8 := hI7.step hb; have hk8 := hI8.cells)
        | (go_at_call 21; (refine (next21 _ _ _ f e from_ _ hI8.lk hI8.s hI8.e (by have := hl2.out; omega) hf.s HEN.out hf.r).mono ?_); rintro e wc ⟨vC, rfl, hoC, hb⟩; have hI9 := hI8.step hb; have hk9 := hI9.cells)
        | (go_at_call 22; (refine (next22 _ _ _ f e from_ _ hI9.lk hI9.s hI9.e (by have := hl2.out; omega) hf.s HEN.out hf.r).mono ?_); rintro e wd ⟨vD, rfl, hoD, hb⟩; have hI10 := hI9.step hb; have hk10 := hI10.cells; have hrC := (own_rdI hoC).below hb; have hrD := own_rdI hoD)
        | (go_at_call 20; (refine (ints20 _ _ _ _ hrC hrD HLF.out).mono ?_); rintro e we ⟨rfl, hb⟩; have hI11 := hI10.step hb; have hk11 := hI11.cells))
    all_goals
      have hB := hI11.bel
      go_wp2
      go_ret
      exact ⟨rfl, hB⟩
end Go.Proofs.Ytamaihlpdebekaa
