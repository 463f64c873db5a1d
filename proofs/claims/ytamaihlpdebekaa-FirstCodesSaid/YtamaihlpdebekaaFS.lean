/- rosettelaw15.FirstCuts. -/
import Derived.Test.YtamaihlpdebekaaFR
import Derived.Test.YtamaihlpdebekaaFP
namespace Go.Proofs.Ytamaihlpdebekaa
open Go.RowKit
set_option linter.unusedVariables false
set_option linter.unusedSimpArgs false

theorem flat_le {T : Type} {g : T → List UInt8} {k : Nat} : ∀ {l : List T}, (∀ x ∈ l, (g x).length ≤ k) → (l.flatMap g).length ≤ l.length * k
  | [], _ => by simp
  | x :: l, h => by
    have h1 := h x (List.mem_cons_self ..)
    have h2 := flat_le (l := l) (fun y hy => h y (List.mem_cons_of_mem _ hy))
    rw [List.flatMap_cons, List.length_append, List.length_cons, Nat.succ_mul]
    omega
theorem encF_len {f : First} (h : f.right = true) : 5 ≤ (encF f).length ∧ (encF f).length ≤ 20000 := by
  obtain ⟨⟨h1, _⟩, h2, h3⟩ := right_pay h
  have k1 : (f.links.flatMap be2).length ≤ f.links.length * 2 := flat_le (fun x _ => Nat.le_refl _)
  have k2 : (f.subs.flatMap encSub).length ≤ f.subs.length * 305 := flat_le (fun s hs => by
    obtain ⟨_, _, r1, r2⟩ := h3 s hs
    have k3 : (s.ranges.flatMap encRng).length ≤ s.ranges.length * 25 := flat_le (fun r hr => by
      have : r.name.data.toList.length ≤ 16 := (r2 r hr).1
      simp only [encRng, be4, List.length_cons, List.length_append, List.length_nil]
      omega)
    have : s.ranges.length * 25 ≤ 12 * 25 := Nat.mul_le_mul_right _ r1
    simp only [encSub, be2, List.length_cons, List.length_append, List.length_nil]
    omega)
  have : f.subs.length * 305 ≤ 64 * 305 := Nat.mul_le_mul_right _ h2
  simp only [encF, List.length_cons, List.length_append, List.length_nil]
  omega

structure CutInv (w0 : World) (vL vS vm : Value) (f : First) (more : List UInt8) (w : World) : Prop where
  l : enI64.Rd w vL f.links
  s : enSub.Rd w vS f.subs
  m : enU8.Rd w vm more
  b : Blk w w0.heap.size 25 #[vL, vS]
  bel : Below w0.heap.size w0 w
theorem CutInv.step {w0 : World} {vL vS vm : Value} {f : First} {more : List UInt8} {w w' : World} (h : CutInv w0 vL vS vm f more w) (hb : Below w.heap.size w w') : CutInv w0 vL vS vm f more w' :=
  ⟨h.l.below hb, h.s.below hb, h.m.below hb, h.b.below hb h.b.lt, below_step h.bel hb⟩
theorem CutInv.cells {w0 : World} {vL vS vm : Value} {f : First} {more : List UInt8} {w : World} (h : CutInv w0 vL vS vm f more w) :
    w.cell? ⟨w0.heap.size, 0, none⟩ = some vL ∧ w.cell? ⟨w0.heap.size, 1, none⟩ = some vS ∧ w0.heap.size < w.heap.size :=
  ⟨(h.b.cell 0).trans rfl, (h.b.cell 1).trans rfl, h.b.lt⟩

set_option maxHeartbeats 4000000 in
set_option maxRecDepth 100000 in
theorem cuts7 (vL vS vm : Value) (f : First) (cut : Int) (more : List UInt8) (w : World) (hL : enI64.Rd w vL f.links) (hS : enSub.Rd w vS f.subs) (hm : enU8.Rd w vm more) (hf : Fits f) (hml : more.length ≤ maxLen) :
    Calls Try.prog 7 #[.agg #[vL, vS], .int .i64 cut, vm] w fun x w' => x = .returned (.bool true) ∧ Below w.heap.size w w' := by
  have hX : Below w.heap.size w (w.alloc (.cells #[vL, vS] 25)) := (Below.refl _ _).alloc (Nat.le_refl _) _
  have hI0 : CutInv w vL vS vm f more (w.alloc (.cells #[vL, vS] 25)) := ⟨hL.below hX, hS.below hX, hm.below hX, Blk.new _ _ _, hX⟩
  obtain ⟨AL, cL, rfl, _⟩ := hL.form
  obtain ⟨AS, cS, rfl, _⟩ := hS.form
  obtain ⟨Am, cm, rfl, hmc⟩ := hm.form
  clear hL hS hm hX
  obtain ⟨m, hM⟩ : ∃ m, m = more.length := ⟨_, rfl⟩
  rw [← hM] at hI0 hml hmc ⊢
  have HM := Aside.mk hM
  clear hM
  unfold maxLen at hml
  go_enter Try.func7, Try.ntmps7
  go_wp2_with fail
  refine (small8 _).mono ?_
  rintro x w1 ⟨rfl, hb⟩
  have hI1 := hI0.step hb
  obtain ⟨d0, d1, dl⟩ := hI1.cells
  clear hI0 hb
  go_wp2_with fail
  refine (few9 _ _ f w1 hI1.l hI1.s hf.l hf.s hf.r).mono ?_
  rintro x w2 ⟨q, rfl, hb⟩
  have hI2 := hI1.step hb
  obtain ⟨d0, d1, dl⟩ := hI2.cells
  clear hI1 hb
  go_wp2_with fail
  refine (encode10 _ _ f w2 hI2.l hI2.s hf.l hf.s).mono ?_
  rintro x w3 ⟨v, rfl, ho, hb⟩
  have hI3 := hI2.step hb
  obtain ⟨A, c, rfl, hnc⟩ := own_slice ho
  have hB3 := hI3.bel
  obtain ⟨n, hN⟩ : ∃ n, n = (if f.right then encF f else []).length := ⟨_, rfl⟩
  rw [← hN] at hnc ⊢
  have HN := Aside.mk hN
  clear hN hI2 hb
  cases q
  · go_wp2
    go_ret
    exact ⟨rfl, hB3⟩
  cases hrt : f.right
  · go_wp2
    go_ret
    exact ⟨rfl, hB3⟩
  by_cases hc0 : cut < 0
  · go_wp2
    go_ret
    exact ⟨rfl, hB3⟩
  by_cases hcn : (n : Int) ≤ cut
  · go_wp2
    go_ret
    exact ⟨rfl, hB3⟩
  by_cases hm1 : (m : Int) < 1
  · go_wp2
    go_ret
    exact ⟨rfl, hB3⟩
  by_cases hm2 : 100 < m
  · go_wp2
    go_ret
    exact ⟨rfl, hB3⟩
  rw [hrt, if_pos rfl] at ho
  have hN : n = (encF f).length := by rw [HN.out, hrt, if_pos rfl]
  obtain ⟨hl5, hl6⟩ := encF_len hrt
  rw [← hN] at hl5 hl6
  obtain ⟨k, rfl⟩ := Int.eq_ofNat_of_zero_le (show 0 ≤ cut by omega)
  have hrd : enU8.Rd w3 (.slice A n c) (encF f) := by
    have := OwnB.rd ho
    rw [← hN] at this
    exact this
  have hcut := En.Sl.take hrd k (by omega)
  have hdc := decode_to (.slice A k c) _ _ (decode_cut hrt k (by omega)) w3 hcut (by rw [List.length_take]; unfold maxLen; omega)
  obtain ⟨ad, rfl⟩ : ∃ ad, A = some ad := by
    obtain ⟨g, cap, hg, _, _⟩ := World.ownsRow.form ho (by omega)
    injection hg with hg _ _
    exact ⟨_, hg⟩
  have hdm := decode_more hrt more (by intro e; rw [e] at HM; have := HM.out; simp at this; omega)
  have hN' := Aside.mk hN
  have hkn : (k : Int) ≤ (n : Int) := by omega
  have hkc : (k : Int) ≤ (c : Int) := by omega
  clear HN hcut ho hrt hN
  go_wp2_with fail
  refine hdc.mono ?_
  rintro x w4 ⟨A4, n4, c4, A4', n4', c4', rfl, _, _, hb⟩
  have hI4 := hI3.step hb
  have hrd4 := hrd.below hb
  have hb5 : Below w4.heap.size w4 ((w4.alloc (.cells #[.slice A4 n4 c4, .slice A4' n4' c4'] 25)).alloc (.cells #[] 5)) := below_alloc ((Below.refl _ _).alloc (Nat.le_refl _) _) _
  have hrd5 := hrd4.below hb5
  have ho5 : ((w4.alloc (.cells #[.slice A4 n4 c4, .slice A4' n4' c4'] 25)).alloc (.cells #[] 5)).ownsRow w4.heap.size 5 1 (.slice (some ⟨w4.heap.size + 1, 0, none⟩) 0 0) 0 [] := by
    have := Blk.new (w4.alloc (.cells #[.slice A4 n4 c4, .slice A4' n4' c4'] 25)) 5 #[]
    rw [World.size_alloc] at this
    exact own_new (n := 0) (cs := #[]) this rfl (by decide) (by omega) rfl
  have hone : ∀ l : List UInt8, ∀ x ∈ l, ∀ u ∈ [u8v x], u.oneCell' = true := by intro l x _ u hu; simp at hu; subst hu; rfl
  clear hdc hI3 hrd hb hrd4
  go_wp2_with (first | (at_builtin; refine app_rd0 (f := fun b => [u8v b]) (hm := fun _ => rfl) rfl _ _ 26 rfl 5 (.int .u8 0) 1 Try.underlying26 Try.info5 rfl (by decide) (by decide) w4.heap.size _ rfl ho5 _ (encF f) _ rfl hrd5 (hone _) (by have := hN'.out; omega) hb5.size ?_; intro A6 c6 w6 hown6 hg6 hat6; have hB6 := below_app hb5 hg6 (own_bound ho5)) | (at_builtin; refine app_rd (f := fun b => [u8v b]) (hm := fun _ => rfl) rfl _ _ 26 rfl 5 (.int .u8 0) 1 Try.underlying26 Try.info5 rfl (by decide) (by decide) w4.heap.size _ (encF f).length _ rfl hown6 _ more _ rfl (hI4.step hB6).m (hone _) (by have := hN'.out; have := HM.out; omega) hB6.size ?_; intro A7 c7 w7 hown7 hg7 hat7))
  have hB7 := below_app hB6 hg7 (own_bound hown6)
  have hI7 := hI4.step hB7
  have hr7 : enU8.Rd w7 (.slice A7 ((encF f).length + more.length) c7) (encF f ++ more) := own_sl (xs := encF f ++ more) (by rw [List.length_append, List.flatMap_append]; exact hown7) (own_lt hown7)
  have hdc := decode_to _ _ _ hdm w7 hr7 (by rw [List.length_append]; have := hN'.out; have := HM.out; unfold maxLen; omega)
  have hB := hI7.bel
  clear hown6 hown7 hg6 hg7 hat6 hat7 hB6 hB7 hI4 hI7 hr7 hb5 ho5 hone hrd5 hdm
  generalize (encF f).length + more.length = n7 at *
  refine hdc.mono ?_
  rintro x w8 ⟨A8, n8, c8, A8', n8', c8', rfl, _, _, hb⟩
  have hB8 := below_step hB hb
  clear hdc hb
  go_wp2
  go_ret
  exact ⟨rfl, below_alloc hB8 _⟩
end Go.Proofs.Ytamaihlpdebekaa
