/- rosetteref15.Next. -/
import Derived.Test.YtamaihlpdebekaaGI
import Derived.Test.YtamaihlpdebekaaFF
namespace Go.Proofs.Ytamaihlpdebekaa
open Go.RowKit
set_option linter.unusedVariables false
set_option linter.unusedSimpArgs false

theorem any_take' {T : Type} {p : T → Bool} {l : List T} {k : Nat} (h : k < l.length) : (l.take (k + 1)).any p = ((l.take k).any p || p l[k]) := by
  rw [List.take_succ_eq_append_getElem h, List.any_append]; simp

set_option maxHeartbeats 4000000 in
set_option maxRecDepth 100000 in
theorem next22 (vL vS ve : Value) (f : First) (e : List Attr) (from_ : Int) (w : World) (hL : enI64.Rd w vL f.links) (hS : enSub.Rd w vS f.subs) (he : enAttr.Rd w ve e)
    (hnL : f.links.length ≤ 17592186044416) (hnS : f.subs.length ≤ maxLen) (hne : e.length ≤ maxLen) (hnR : ∀ s ∈ f.subs, s.ranges.length ≤ maxLen) :
    Calls Try.prog 22 #[.agg #[vL, vS], ve, .int .i64 from_] w (MadeInts 3 w (fnext f e from_)) := by
  obtain ⟨links, subs⟩ := f
  simp only at *
  obtain ⟨R, hR⟩ : ∃ R, R = fnext ⟨links, subs⟩ e from_ := ⟨_, rfl⟩
  rw [← hR]
  have HR := Aside.mk hR
  clear hR
  have HNE := Aside.mk hne
  unfold maxLen at hnS
  obtain ⟨AL, cL, rfl, hlL⟩ := hL.form
  obtain ⟨AS, cS, rfl, hlS⟩ := hS.form
  obtain ⟨Ae, ce, rfl, hle⟩ := he.form
  obtain ⟨nL, hNL⟩ : ∃ n, n = links.length := ⟨_, rfl⟩
  obtain ⟨nS, hNS⟩ : ∃ n, n = subs.length := ⟨_, rfl⟩
  rw [← hNL] at hnL hlL hL ⊢
  rw [← hNS] at hnS hlS hS ⊢
  have HNL := Aside.mk hNL
  have HNS := Aside.mk hNS
  clear hNL hNS hne
  have hB0 : Below w.heap.size w (w.alloc (.cells #[.slice AL nL cL, .slice AS nS cS] 25)) := (Below.refl _ _).alloc (Nat.le_refl _) _
  have hx1 : Blk (w.alloc (.cells #[.slice AL nL cL, .slice AS nS cS] 25)) w.heap.size 25 #[.slice AL nL cL, .slice AS nS cS] := Blk.new w 25 _
  obtain ⟨p, hp⟩ : ∃ p : Int → Bool, p = fun id => id != from_ && subs.any (FSub.wants e id) := ⟨_, rfl⟩
  have HR' : Aside (R = links.filter p) := ⟨by rw [HR.out, hp]; rfl⟩
  have HP := Aside.mk hp
  clear HR hp
  go_enter Try.func22, Try.ntmps22
  go_wp2
  go_loopw [7, 8, 9, 10] (fun v j u9 u10 wr => ∃ k : Nat, j = .int .i64 k ∧ k ≤ nL ∧ Below w.heap.size w wr ∧ Blk wr w.heap.size 25 #[.slice AL nL cL, .slice AS nS cS] ∧
      wr.ownsRow (w.heap.size + 1) 3 1 v ((links.take k).filter p).length (((links.take k).filter p).map fun n => .int .i64 n)) (fun v j u9 u10 wr => nL - (intOf j).toNat)
  case atStart => exact ⟨0, rfl, Nat.zero_le _, hB0, hx1, World.ownsRow_nil _ _ _ _⟩
  case round =>
    clear hB0 hx1
    obtain ⟨k, rfl, hk, hB, hx1, hown⟩ := hrel
    obtain ⟨wo, hwo⟩ : ∃ x, x = wr := ⟨_, rfl⟩
    subst hwo
    have hb1 : wo.cell? ⟨w.heap.size, 0, none⟩ = some (.slice AL nL cL) := (hx1.cell 0).trans rfl
    have hb2 : wo.cell? ⟨w.heap.size, 1, none⟩ = some (.slice AS nS cS) := (hx1.cell 1).trans rfl
    have hlt0 := hx1.lt
    have hle' : ((links.take k).filter p).length ≤ k := Nat.le_trans (List.length_filter_le _ _) (List.length_take_le _ _)
    by_cases hlt : k < nL
    · have hlt' : k < links.length := by rw [← HNL.out]; exact hlt
      obtain ⟨a, rfl, hab, h0⟩ := rdI_at (hL.below hB) k hlt'
      have hF := filter_take_succ p links k hlt'
      rw [show links.getD k 0 = links[k] by simp [hlt']] at h0
      generalize links[k] = y at *
      have HF := Aside.mk hF
      clear hF
      generalize (links.take k).filter p = ys at *
      have hpy : Aside (p y = (y != from_ && subs.any fun s => FSub.wants e y s)) := ⟨by rw [HP.out]⟩
      have i0 : (0 : Int) ≤ (k : Int) := Int.natCast_nonneg _
      have i1 : (k : Int) < (nL : Int) := by omega
      clear HP hL
      go_wp2
      go_loopw [9, 10] (fun b j wr => ∃ m : Nat, ∃ q : Bool, b = .bool q ∧ j = .int .i64 m ∧ m ≤ nS ∧ Aside (q = (subs.take m).any fun s => FSub.wants e y s) ∧ Below wo.heap.size wo wr) (fun b j wr => nS - (intOf j).toNat)
      case atStart => exact ⟨0, false, rfl, rfl, Nat.zero_le _, ⟨rfl⟩, Below.refl _ _⟩
      case round =>
        obtain ⟨m, q, rfl, rfl, hm, HQ, hBi⟩ := hrel
        have c1 := (hBi.cell (p := ⟨w.heap.size, 0, none⟩) hlt0).trans hb1
        have c2 := (hBi.cell (p := ⟨w.heap.size, 1, none⟩) hlt0).trans hb2
        have c3 := (hBi.cell (by rw [block_of_add]; exact hab)).trans h0
        by_cases hltm : m < nS
        · have hltm' : m < subs.length := by rw [← HNS.out]; exact hltm
          obtain ⟨a2, v, rfl, hab2, hv, g0, g1, g2⟩ := rdSub_at ((hS.below hB).below hBi) m hltm'
          have HD := Aside.mk (any_take' (p := fun s => FSub.wants e y s) hltm')
          have hnr := hnR _ (List.getElem_mem hltm')
          generalize subs[m] = s at *
          have j0 : (0 : Int) ≤ (m : Int) := Int.natCast_nonneg _
          have j1 : (m : Int) < (nS : Int) := by omega
          have hmt := meets19 v _ s.ranges e wr.drew (hv.below (below_drew (Below.refl _ _))) (((he.below hB).below hBi).below (below_drew (Below.refl _ _))) hnr HNE.out
          obtain ⟨Av, cv, rfl, _⟩ := hv.form
          clear hS he hv hnr
          have hq0 : w.heap.size < wr.heap.size := Nat.lt_of_lt_of_le hlt0 hBi.size
          have hq1 : (a.add k).block < wr.heap.size := Nat.lt_of_lt_of_le (by rw [block_of_add]; exact hab) hBi.size
          have hq2 : (a2.add (m * 3)).block < wr.heap.size := by rw [block_of_add]; exact hab2
          have HK : Aside (∀ W, Below wr.heap.size wr W → W.cell? ⟨w.heap.size, 0, none⟩ = some (.slice (some a) nL cL) ∧ W.cell? ⟨w.heap.size, 1, none⟩ = some (.slice (some a2) nS cS) ∧ W.cell? (a.add k) = some (.int .i64 y) ∧ W.cell? ⟨(a2.add (m * 3)).block, (a2.add (m * 3)).off + 1, none⟩ = some (.int .i64 s.from_) ∧ W.cell? ⟨(a2.add (m * 3)).block, (a2.add (m * 3)).off + 2, none⟩ = some (.slice Av s.ranges.length cv)) := ⟨fun W h => ⟨(h.cell (p := ⟨w.heap.size, 0, none⟩) hq0).trans c1, (h.cell (p := ⟨w.heap.size, 1, none⟩) hq0).trans c2, (h.cell hq1).trans c3, (h.cell (p := ⟨(a2.add (m * 3)).block, (a2.add (m * 3)).off + 1, none⟩) hq2).trans g1, (h.cell (p := ⟨(a2.add (m * 3)).block, (a2.add (m * 3)).off + 2, none⟩) hq2).trans g2⟩⟩
          clear hq0 hq1 hq2
          cases q
          · by_cases hfy : s.from_ = y
            · have HX : Aside (fmeets s.ranges e = (subs.take (m + 1)).any fun s => FSub.wants e y s) := ⟨by rw [HD.out, ← HQ.out, Bool.false_or, FSub.wants, beq_iff_eq.2 hfy, Bool.true_and]⟩
              have hfyb : (s.from_ == y) = true := beq_iff_eq.2 hfy
              clear HQ HD hfy
              generalize fmeets s.ranges e = b at *
              go_wp2
              go_region_held3 (fun w' => w'.cell? ⟨w.heap.size, 0, none⟩ = some (.slice (some a) nL cL) ∧ w'.cell? ⟨w.heap.size, 1, none⟩ = some (.slice (some a2) nS cS) ∧ w'.cell? (a.add k) = some (.int .i64 y) ∧ w'.cell? ⟨(a2.add (m * 3)).block, (a2.add (m * 3)).off + 1, none⟩ = some (.int .i64 s.from_) ∧ w'.cell? ⟨(a2.add (m * 3)).block, (a2.add (m * 3)).off + 2, none⟩ = some (.slice Av s.ranges.length cv))
                (first | exact HK.out _ hb' | exact ⟨c1, c2, c3, g1, g2⟩ | go_keep)
                (first | (go_at_call 19; (refine hmt.mono ?_); rintro e wa ⟨rfl, hb⟩; have hb' := below_step (below_drew (Below.refl wr.heap.size wr)) hb))
              all_goals
                have hBj := below_step hBi hb'
                clear hmt HK c1 c2 c3 g1 g2
                go_wp2
                go_roundw
                case rel => exact ⟨m + 1, b, rfl, by go_num, by omega, HX, hBj⟩
                case measure => simp [intOf]; omega
            · have HX : Aside (false = (subs.take (m + 1)).any fun s => FSub.wants e y s) := ⟨by rw [HD.out, ← HQ.out, Bool.false_or, FSub.wants, beq_eq_false_iff_ne.2 hfy, Bool.false_and]⟩
              have hfyb : (s.from_ == y) = false := beq_eq_false_iff_ne.2 hfy
              clear HQ HD hfy hmt HK
              go_wp2
              go_quiet (fail)
              clear c1 c2 c3 g1 g2
              go_wp2
              go_roundw
              case rel => exact ⟨m + 1, _, rfl, by go_num, by omega, HX, below_drewN hBi _⟩
              case measure => simp [intOf]; omega
          · have HX : Aside (true = (subs.take (m + 1)).any fun s => FSub.wants e y s) := ⟨by rw [HD.out, ← HQ.out, Bool.true_or]⟩
            clear HQ HD hmt HK
            go_wp2
            go_quiet (fail)
            clear c1 c2 c3 g1 g2
            go_wp2
            go_roundw
            case rel => exact ⟨m + 1, _, rfl, by go_num, by omega, HX, below_drewN hBi _⟩
            case measure => simp [intOf]; omega
        · obtain rfl : m = nS := by omega
          have HY : Aside (q = subs.any fun s => FSub.wants e y s) := ⟨by rw [HQ.out, HNS.out, List.take_length]⟩
          have hB2 := below_step hB hBi
          have hx2 := hx1.below hBi hlt0
          have hown2 := own_below hown hBi
          clear HQ hS he hown hx1 hb1 hb2 h0 hBi hB
          by_cases hyf : y = from_
          · have HX : Aside ((links.take (k + 1)).filter p = ys) := ⟨by rw [HF.out, hpy.out, bne_eq_false_iff_eq.2 hyf]; simp⟩
            have hyb : (y != from_) = false := bne_eq_false_iff_eq.2 hyf
            clear hpy HF hyf HY
            cases q
            all_goals
              go_wp2
              go_roundw
              case rel => exact ⟨k + 1, by go_num, by omega, hB2, hx2, by rw [HX.out]; exact hown2⟩
              case measure => simp [intOf]; omega
          · have hyb : (y != from_) = true := bne_iff_ne.2 hyf
            cases q
            · have HX : Aside ((links.take (k + 1)).filter p = ys) := ⟨by rw [HF.out, hpy.out, ← HY.out]; simp⟩
              clear hpy HF HY hyf
              go_wp2
              go_roundw
              case rel => exact ⟨k + 1, by go_num, by omega, hB2, hx2, by rw [HX.out]; exact hown2⟩
              case measure => simp [intOf]; omega
            · have HX : Aside ((links.take (k + 1)).filter p = ys ++ [y]) := ⟨by rw [HF.out, hpy.out, ← HY.out, hyb]; simp⟩
              clear hpy HF HY hyf
              go_wp2_with (at_builtin; refine app_lit rfl _ _ 22 rfl 3 (.int .i64 0) 1 8 Try.underlying22 Try.info3 rfl (by decide) (by decide) (w.heap.size + 1) _ _ _ rfl (hown2.alloc _) wr.heap.size 1 1 #[.int .i64 y] rfl (Blk.new _ _ _) rfl (by simp [Value.oneCell']) (by decide) (by omega) (by have := hx2.lt; simp; omega) ?_; intro g cap w3 hown3 hgr hat hlt3)
              have hgr' := World.grownBy.trans (World.grownBy_alloc wr (.cells #[.int .i64 y] 3) _) hgr
              go_roundw
              case rel => exact ⟨k + 1, by go_num, by omega, hB2.grown hgr' hB2.size (fun z hz => by have := own_bound hown2 z hz; omega), hx2.grown hgr' (own_blk_ne hown2 hx2 (by decide)), by rw [HX.out, List.length_append, List.map_append]; exact hown3⟩
              case measure => simp [intOf]; omega
    · obtain rfl : k = nL := by omega
      have HX : Aside ((links.take k).filter p = R) := ⟨by rw [HR'.out, HNL.out, List.take_length]⟩
      rw [HX.out] at hown
      clear HP hL hS he HX
      go_wp2
      go_ret
      exact ⟨_, rfl, own_less hown (by omega), hB⟩
end Go.Proofs.Ytamaihlpdebekaa
