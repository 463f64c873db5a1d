/- first: Next. -/
import Derived.Test.YtamaihlpdebekaaFE
namespace Go.Proofs.Ytamaihlpdebekaa
open Go.RowKit
set_option linter.unusedVariables false
set_option linter.unusedSimpArgs false

theorem Try.info3 : (Try.prog.info? 3).map (fun i => (i.zero, i.size, i.bytes)) = some (some (.int .i64 0), 1, 8) := by kernel_rfl

def FSub.wants (e : List Attr) (id : Int) (s : FSub) : Bool := s.from_ == id && fmeets s.ranges e

set_option maxHeartbeats 400000 in
theorem next1 (s : FSub) (vr : Value) (B1 B2 : Nat) (id : Int) (ve : Value) (e : List Attr) (w : World) (hB1 : B1 < w.heap.size) (hB2 : B2 < w.heap.size) (hc1 : w.cell? ⟨B1, 0, none⟩ = some (.int .i64 id)) (hc2 : w.cell? ⟨B2, 0, none⟩ = some ve)
    (hr : enRng.Rd w vr s.ranges) (he : enAttr.Rd w ve e) (hnr : s.ranges.length ≤ maxLen) (hne : e.length ≤ maxLen) :
    Calls Try.prog 44 #[.agg #[.int .i64 s.id, .int .i64 s.from_, vr], .pointer (some ⟨B1, 0, none⟩), .pointer (some ⟨B2, 0, none⟩)] w fun x w' => x = .returned (.bool (s.wants e id)) ∧ Below w.heap.size w w' := by
  obtain ⟨R, hR⟩ : ∃ R, R = s.wants e id := ⟨_, rfl⟩
  rw [← hR]
  have HR := Aside.mk hR
  clear hR
  have hB0 : Below w.heap.size w (w.alloc (.cells #[.int .i64 s.id, .int .i64 s.from_, vr] 40)) := (Below.refl _ _).alloc (Nat.le_refl _) _
  have hm := meets18 vr ve s.ranges e _ (hr.below hB0) (he.below hB0) hnr hne
  obtain ⟨Ar, cr, rfl, _⟩ := hr.form
  obtain ⟨Ae, ce, rfl, _⟩ := he.form
  clear hr he
  have hn1 : B1 ≠ w.heap.size := by omega
  have hn2 : B2 ≠ w.heap.size := by omega
  by_cases h1 : s.from_ = id
  · have HF : Aside (R = fmeets s.ranges e) := ⟨by rw [HR.out, FSub.wants, beq_iff_eq.2 h1, Bool.true_and]⟩
    have h1b : (s.from_ == id) = true := beq_iff_eq.2 h1
    clear HR h1
    generalize fmeets s.ranges e = b at *
    generalize s.ranges.length = n1 at *
    generalize e.length = n2 at *
    go_enter Try.func44, Try.ntmps44
    go_wp2_with fail
    refine hm.mono ?_
    rintro x w2 ⟨rfl, hb⟩
    go_wp2
    go_ret
    exact ⟨by rw [HF.out]; rfl, below_step hB0 hb⟩
  · have HF : Aside (R = false) := ⟨by rw [HR.out, FSub.wants, beq_eq_false_iff_ne.2 h1, Bool.false_and]⟩
    have h1b : (s.from_ == id) = false := beq_eq_false_iff_ne.2 h1
    clear HR h1 hm
    go_enter Try.func44, Try.ntmps44
    go_wp2
    go_ret
    exact ⟨by rw [HF.out]; rfl, hB0⟩

def fnext (f : First) (e : List Attr) (from_ : Int) : List Int := f.links.filter fun id => id != from_ && f.subs.any (FSub.wants e id)

/-- What a call hands back that makes a row of ints. -/
def MadeInts (E : TypeId) (w : World) (xs : List Int) (e : Ending) (w' : World) : Prop := ∃ v, e = .returned v ∧ w'.ownsRow w.heap.size E 1 v xs.length (xs.map fun n => .int .i64 n) ∧ Below w.heap.size w w'

theorem filter_take_succ {T : Type} (p : T → Bool) (l : List T) (k : Nat) (h : k < l.length) : (l.take (k + 1)).filter p = (l.take k).filter p ++ (if p l[k] then [l[k]] else []) := by
  rw [List.take_succ_eq_append_getElem h, List.filter_append]
  congr 1
  simp only [List.filter_cons, List.filter_nil]

set_option maxHeartbeats 1000000 in
theorem next21 (vL vS ve : Value) (f : First) (e : List Attr) (from_ : Int) (w : World) (hL : enI64.Rd w vL f.links) (hS : enSub.Rd w vS f.subs) (he : enAttr.Rd w ve e)
    (hnL : f.links.length ≤ 17592186044416) (hnS : f.subs.length ≤ maxLen) (hne : e.length ≤ maxLen) (hnR : ∀ s ∈ f.subs, s.ranges.length ≤ maxLen) :
    Calls Try.prog 21 #[.agg #[vL, vS], ve, .int .i64 from_] w (MadeInts 3 w (fnext f e from_)) := by
  obtain ⟨links, subs⟩ := f
  simp only at *
  obtain ⟨R, hR⟩ : ∃ R, R = fnext ⟨links, subs⟩ e from_ := ⟨_, rfl⟩
  rw [← hR]
  have HR := Aside.mk hR
  clear hR
  unfold maxLen at hnS hne
  obtain ⟨AL, cL, rfl, hlL⟩ := hL.form
  obtain ⟨AS, cS, rfl, hlS⟩ := hS.form
  obtain ⟨Ae, ce, rfl, hle⟩ := he.form
  obtain ⟨nL, hNL⟩ : ∃ n, n = links.length := ⟨_, rfl⟩
  obtain ⟨nS, hNS⟩ : ∃ n, n = subs.length := ⟨_, rfl⟩
  obtain ⟨ne, hNe⟩ : ∃ n, n = e.length := ⟨_, rfl⟩
  rw [← hNL] at hnL hlL hL ⊢
  rw [← hNS] at hnS hlS hS ⊢
  rw [← hNe] at hne hle he ⊢
  have HNL := Aside.mk hNL
  have HNS := Aside.mk hNS
  have HNe := Aside.mk hNe
  clear hNL hNS hNe
  have hB0 : Below w.heap.size w ((w.alloc (.cells #[.slice AL nL cL, .slice AS nS cS] 25)).alloc (.cells #[.slice Ae ne ce] 36)) := below_alloc ((Below.refl _ _).alloc (Nat.le_refl _) _) _
  have hx1 : Blk ((w.alloc (.cells #[.slice AL nL cL, .slice AS nS cS] 25)).alloc (.cells #[.slice Ae ne ce] 36)) w.heap.size 25 #[.slice AL nL cL, .slice AS nS cS] := (Blk.new w 25 _).alloc _
  have hx2 : Blk ((w.alloc (.cells #[.slice AL nL cL, .slice AS nS cS] 25)).alloc (.cells #[.slice Ae ne ce] 36)) (w.heap.size + 1) 36 #[.slice Ae ne ce] := by
    have := Blk.new (w.alloc (.cells #[.slice AL nL cL, .slice AS nS cS] 25)) 36 #[.slice Ae ne ce]
    rwa [World.size_alloc] at this
  obtain ⟨p, hp⟩ : ∃ p : Int → Bool, p = fun id => id != from_ && subs.any (FSub.wants e id) := ⟨_, rfl⟩
  have HR' : Aside (R = links.filter p) := ⟨by rw [HR.out, hp]; rfl⟩
  have HP := Aside.mk hp
  clear HR hp
  go_enter Try.func21, Try.ntmps21
  go_wp2
  go_loopw [6, 13] (fun v j wr => ∃ k : Nat, j = .int .i64 k ∧ k ≤ nL ∧ Below w.heap.size w wr ∧ Blk wr w.heap.size 25 #[.slice AL nL cL, .slice AS nS cS] ∧ Blk wr (w.heap.size + 1) 36 #[.slice Ae ne ce] ∧
      wr.ownsRow w.heap.size 3 1 v ((links.take k).filter p).length (((links.take k).filter p).map fun n => .int .i64 n)) (fun v j wr => nL - (intOf j).toNat)
  case atStart => exact ⟨0, rfl, Nat.zero_le _, hB0, hx1, hx2, World.ownsRow_nil _ _ _ _⟩
  case round =>
    clear hB0 hx1 hx2
    obtain ⟨k, rfl, hk, hB, hx1, hx2, hown⟩ := hrel
    have hb1 := hx1.cell 0
    have hb2 := hx1.cell 1
    have hb3 := hx2.cell 0
    have hlt1 := hx2.lt
    have hlt0 := hx1.lt
    simp only [List.getElem?_toArray, List.getElem?_cons_zero, List.getElem?_cons_succ] at hb1 hb2 hb3
    have hle' : ((links.take k).filter p).length ≤ k := Nat.le_trans (List.length_filter_le _ _) (List.length_take_le _ _)
    by_cases hlt : k < nL
    · have hlt' : k < links.length := by rw [← HNL.out]; exact hlt
      obtain ⟨a, rfl, hab, h0⟩ := rdI_at (hL.below hB) k hlt'
      have hF := filter_take_succ p links k hlt'
      rw [show links.getD k 0 = links[k] by simp [hlt']] at h0
      generalize links[k] = y at *
      have HF := Aside.mk hF
      clear hF
      generalize (links.take k).filter p = ys at *
      have hW1 : Below wr.heap.size wr (wr.alloc (.cells #[.int .i64 y] 3)) := (Below.refl _ _).alloc (Nat.le_refl _) _
      have hB1 := below_step hB hW1
      have z : FSub := ⟨0, 0, []⟩
      have hix := anySub AS nS cS (fun i => (subs.getD i z).wants e y) 44 #[.pointer (some ⟨wr.heap.size, 0, none⟩), .pointer (some ⟨w.heap.size + 1, 0, none⟩)] (wr.alloc (.cells #[.int .i64 y] 3)) hnS (enters Try.func44 (by kernel_rfl) rfl)
        (fun i hi => by
          have hi' : i < subs.length := by rw [← HNS.out]; exact hi
          obtain ⟨a, v, hA, ha, hv, h0, h1, h2⟩ := rdSub_at (hS.below hB1) i hi'
          rw [show subs.getD i z = subs[i] by simp [hi']]
          refine ⟨a, _, _, _, hA, ha, h0, h1, h2, fun W hW => next1 subs[i] v _ _ y (.slice Ae ne ce) e W (by have := hW.size; simp at this; omega) (by have := hW.size; simp at this; omega) ?_ ?_ (hv.below hW) (by rw [HNe.out] at he ⊢; exact (he.below hB1).below hW) (hnR _ (List.getElem_mem hi')) (by rw [← HNe.out]; exact hne)⟩
          · rw [hW.cell (p := ⟨wr.heap.size, 0, none⟩) (by simp)]
            go_simp
          · rw [hW.cell (p := ⟨w.heap.size + 1, 0, none⟩) (by simp; omega)]
            go_simp)
      rw [HNS.out, anyIx_list (fun s => FSub.wants e y s) subs _ 0 (fun i hi => by simp [hi]), ← HNS.out] at hix
      have hpy : p y = (y != from_ && subs.any fun s => FSub.wants e y s) := by rw [HP.out]
      clear HP hL hS he
      by_cases hyf : y = from_
      · have hpf : p y = false := by rw [hpy, bne_eq_false_iff_eq.2 hyf, Bool.false_and]
        have HX : Aside ((links.take (k + 1)).filter p = ys) := ⟨by rw [HF.out, hpf]; simp⟩
        have hyb : (y != from_) = false := bne_eq_false_iff_eq.2 hyf
        clear hpy hpf HF hyf hix
        go_wp2
        go_roundw
        case rel => exact ⟨k + 1, by go_num, by omega, hB1, hx1.alloc _, hx2.alloc _, by rw [HX.out]; exact hown.alloc _⟩
        case measure => simp [intOf]; omega
      · have hyb : (y != from_) = true := bne_iff_ne.2 hyf
        rw [hyb, Bool.true_and] at hpy
        clear hyf
        cases hany : subs.any fun s => FSub.wants e y s
        · have HX : Aside ((links.take (k + 1)).filter p = ys) := ⟨by rw [HF.out, hpy, hany]; simp⟩
          rw [hany] at hix
          clear hpy hany HF
          go_wp2_with fail
          refine hix.mono ?_
          rintro e w2 ⟨rfl, hb⟩
          have hsz := hb.size
          go_wp2
          go_roundw
          case rel => exact ⟨k + 1, by go_num, by omega, below_step hB1 hb, (hx1.alloc _).below hb (by simp; omega), (hx2.alloc _).below hb (by simp; omega), by rw [HX.out]; exact own_below (hown.alloc _) hb⟩
          case measure => simp [intOf]; omega
        · have HX : Aside ((links.take (k + 1)).filter p = ys ++ [y]) := ⟨by rw [HF.out, hpy, hany]; simp⟩
          rw [hany] at hix
          clear hpy hany HF
          go_wp2_with fail
          refine hix.mono ?_
          rintro e w2 ⟨rfl, hb⟩
          obtain ⟨hc2, hf2⟩ := bcell hb
          have hsz : wr.heap.size < w2.heap.size := by have := hb.size; simp at this; omega
          have hown2 := own_below (hown.alloc (.cells #[.int .i64 y] 3)) hb
          have hB2 := below_step hB1 hb
          have hx1' := (hx1.alloc (.cells #[.int .i64 y] 3)).below hb (by simp; omega)
          have hx2' := (hx2.alloc (.cells #[.int .i64 y] 3)).below hb (by simp; omega)
          clear hix hx1 hx2 hown
          go_wp2_with (at_builtin; refine app_lit rfl _ _ 22 rfl 3 (.int .i64 0) 1 8 Try.underlying22 Try.info3 rfl (by decide) (by decide) w.heap.size _ _ _ rfl (hown2.alloc _) w2.heap.size 1 1 #[.int .i64 y] rfl (Blk.new _ _ _) rfl (by simp [Value.oneCell']) (by decide) (by omega) (by have := hB2.size; simp; omega) ?_; intro g cap w3 hown3 hgr hat hlt3)
          have hgr' := World.grownBy.trans (World.grownBy_alloc w2 (.cells #[.int .i64 y] 3) _) hgr
          go_roundw
          case rel => exact ⟨k + 1, by go_num, by omega, hB2.grown hgr' hB2.size (own_bound hown2), hx1'.grown hgr' (own_blk_ne hown2 hx1' (by decide)), hx2'.grown hgr' (own_blk_ne hown2 hx2' (by decide)), by rw [HX.out, List.length_append, List.map_append]; exact hown3⟩
          case measure => simp [intOf]; omega
    · obtain rfl : k = nL := by omega
      have HX : Aside ((links.take k).filter p = R) := ⟨by rw [HR'.out, HNL.out, List.take_length]⟩
      rw [HX.out] at hown
      clear HP hL hS he HX
      go_wp2
      go_ret
      exact ⟨_, rfl, hown, hB⟩
end Go.Proofs.Ytamaihlpdebekaa
