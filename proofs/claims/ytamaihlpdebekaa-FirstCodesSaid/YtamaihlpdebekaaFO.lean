/- rosettelaw05.Few (any answer); rosettelaw15.FirstRanges. -/
import Derived.Test.YtamaihlpdebekaaFN
import Derived.Test.YtamaihlpdebekaaApps
namespace Go.Proofs.Ytamaihlpdebekaa
open Go.RowKit
set_option linter.unusedVariables false
set_option linter.unusedSimpArgs false

set_option maxHeartbeats 1000000 in
theorem few17 (v : Value) (e : List Attr) (w : World) (h : enAttr.Rd w v e) (hn : e.length ≤ maxLen) : Calls Try.prog 17 #[v] w (SomeBool w) := by
  unfold maxLen at hn
  obtain ⟨A, c, rfl, hl⟩ := h.form
  obtain ⟨n, hN⟩ : ∃ n, n = e.length := ⟨_, rfl⟩
  rw [← hN] at hn hl h ⊢
  have HN := Aside.mk hN
  clear hN
  go_enter Try.func17, Try.ntmps17
  go_wp2
  go_loop [3] (fun j => ∃ k : Nat, j = .int .i64 k ∧ k ≤ n) (fun j => n - (intOf j).toNat)
  case atStart => exact ⟨0, rfl, Nat.zero_le _⟩
  case round =>
    obtain ⟨k, rfl, hk⟩ := hrel
    by_cases hlt : k < n
    · have hlt' : k < e.length := by rw [← HN.out]; exact hlt
      obtain ⟨a, rfl, hab, h0, h1, h2, h3⟩ := rdAttr_at h k hlt'
      generalize e[k] = x at *
      clear h
      by_cases ha : 100 < x.name.size
      · go_wp2
        go_ret
        exact ⟨_, rfl, Below.refl _ _⟩
      · by_cases hb : 300 < x.val.text.size
        · go_wp2
          go_ret
          exact ⟨_, rfl, Below.refl _ _⟩
        · go_wp2
          go_round
          case rel => exact ⟨k + 1, by go_num, by omega⟩
          case measure => simp [intOf]; omega
    · clear h
      go_wp2
      go_ret
      exact ⟨_, rfl, Below.refl _ _⟩

theorem meets_more (l : List Rng) (r : Rng) (e : List Attr) : fmeets (l ++ [r]) e = (fmeets l e && fmeets [r] e) := by
  unfold fmeets
  rw [List.all_append]
theorem strEq_refl (a : ByteArray) : strEq a a = true := by unfold strEq; simp
theorem meets_one (r : Rng) (n : Int) : fmeets [r] [⟨r.name, ⟨1, n, ⟨#[]⟩⟩⟩] = (decide (r.lo ≤ n) && decide (n ≤ r.hi)) := by
  simp [fmeets, Rng.met, getIs, getVal, getAttr, List.find?, strEq_refl, inB]

structure RgInv (w0 : World) (vl ve : Value) (l : List Rng) (e : List Attr) (r : Rng) (w : World) : Prop where
  l : enRng.Rd w vl l
  e : enAttr.Rd w ve e
  b : Blk w w0.heap.size 46 #[.string r.name, .int .i64 r.lo, .int .i64 r.hi]
  bel : Below w0.heap.size w0 w
theorem RgInv.step {w0 : World} {vl ve : Value} {l : List Rng} {e : List Attr} {r : Rng} {w w' : World} (h : RgInv w0 vl ve l e r w) (hb : Below w.heap.size w w') : RgInv w0 vl ve l e r w' :=
  ⟨h.l.below hb, h.e.below hb, h.b.below hb h.b.lt, below_step h.bel hb⟩
theorem RgInv.cells {w0 : World} {vl ve : Value} {l : List Rng} {e : List Attr} {r : Rng} {w : World} (h : RgInv w0 vl ve l e r w) :
    w.cell? ⟨w0.heap.size, 0, none⟩ = some (.string r.name) ∧ w.cell? ⟨w0.heap.size, 1, none⟩ = some (.int .i64 r.lo) ∧ w.cell? ⟨w0.heap.size, 2, none⟩ = some (.int .i64 r.hi) ∧ w0.heap.size < w.heap.size :=
  ⟨(h.b.cell 0).trans rfl, (h.b.cell 1).trans rfl, (h.b.cell 2).trans rfl, h.b.lt⟩

set_option maxHeartbeats 4000000 in
set_option maxRecDepth 100000 in
theorem ranges6 (vl ve : Value) (l : List Rng) (r : Rng) (e : List Attr) (n : Int) (w : World) (hl : enRng.Rd w vl l) (he : enAttr.Rd w ve e) (hnl : l.length ≤ 4398046511103) (hne : e.length ≤ maxLen) :
    Calls Try.prog 6 #[vl, .agg #[.string r.name, .int .i64 r.lo, .int .i64 r.hi], ve, .int .i64 n] w fun x w' => x = .returned (.bool true) ∧ Below w.heap.size w w' := by
  obtain ⟨A, c, rfl, hlc⟩ := hl.form
  obtain ⟨Ae, ce, rfl, hlce⟩ := he.form
  have hX : Below w.heap.size w (w.alloc (.cells #[.string r.name, .int .i64 r.lo, .int .i64 r.hi] 46)) := (Below.refl _ _).alloc (Nat.le_refl _) _
  have hI0 : RgInv w (.slice A l.length c) (.slice Ae e.length ce) l e r (w.alloc (.cells #[.string r.name, .int .i64 r.lo, .int .i64 r.hi] 46)) := ⟨hl.below hX, he.below hX, Blk.new _ _ _, hX⟩
  obtain ⟨nl, hNL⟩ : ∃ n, n = l.length := ⟨_, rfl⟩
  have HNL := Aside.mk hNL
  clear hNL hl he hX
  go_enter Try.func6, Try.ntmps6
  go_wp2_with fail
  refine (small8 _).mono ?_
  rintro x w1 ⟨rfl, hb⟩
  have hI1 := hI0.step hb
  obtain ⟨d0, d1, d2, dl⟩ := hI1.cells
  clear hI0 hb
  have hbk := Blk.new w1 46 #[.string r.name, .int .i64 r.lo, .int .i64 r.hi]
  have hb1 : Below w1.heap.size w1 (w1.alloc (.cells #[.string r.name, .int .i64 r.lo, .int .i64 r.hi] 46)) := (Below.refl _ _).alloc (Nat.le_refl _) _
  have hI2 := hI1.step hb1
  go_wp2_with (at_builtin; refine app_rd (f := Rng.cells) (hm := fun _ => rfl) rfl _ _ 37 rfl 46 _ 32 Try.underlying37 Try.info46 rfl (by decide) (by decide) w1.heap.size _ 1 _ rfl (own_new (n := 1) (size := 3) hbk rfl (by decide) (Nat.le_refl _) rfl) _ l _ rfl hI2.l (by intro x _ u hu; simp [Rng.cells] at hu; rcases hu with rfl | rfl | rfl <;> rfl) (by omega) (by simp) ?_; intro A2 cap2 w2 hown2 hg2 hat2)
  have hB2 : Below w1.heap.size w1 w2 := hb1.grown hg2 (by simp) (fun k hk => by obtain rfl : w1.heap.size = k := Option.some.inj hk; exact Nat.le_refl _)
  have hI3 : RgInv w (.slice A l.length c) (.slice Ae e.length ce) l e r w2 := (hI1.step hB2)
  clear hI1
  have hR2 : enRng.Rd w2 (.slice A2 (1 + l.length) cap2) (r :: l) := own_sl (xs := r :: l) (by rw [show (r :: l).length = 1 + l.length by rw [List.length_cons, Nat.add_comm], List.flatMap_cons]; exact hown2) (own_lt hown2)
  have hb3 : Below w2.heap.size w2 (w2.alloc (.cells #[.int .i64 0, .int .i64 0, .slice A2 (1 + l.length) cap2] 40)) := (Below.refl _ _).alloc (Nat.le_refl _) _
  have hS3 : enSub.Rd (w2.alloc (.cells #[.int .i64 0, .int .i64 0, .slice A2 (1 + l.length) cap2] 40)) (.slice (some ⟨w2.heap.size, 0, none⟩) 1 1) [⟨0, 0, r :: l⟩] := blk_sl (Blk.new w2 40 #[.int .i64 0, .int .i64 0, .slice A2 (1 + l.length) cap2]) rfl (by decide) (by simp) (fun i x hi => by
    have hi' : i = 0 := by
      rcases i with _ | i
      · rfl
      · simp at hi
    subst hi'
    obtain rfl : x = ⟨0, 0, r :: l⟩ := by simpa using hi.symm
    exact ⟨_, enSub_make (hR2.below hb3), fun j u hj => by simpa using hj⟩)
  have hnr : ∀ s ∈ [(⟨0, 0, r :: l⟩ : FSub)], s.ranges.length ≤ maxLen := by
    intro s hs
    obtain rfl := List.mem_singleton.1 hs
    show l.length + 1 ≤ maxLen
    unfold maxLen
    omega
  have hfew := few9 (.slice none 0 0) _ ⟨[], [⟨0, 0, r :: l⟩]⟩ _ (En.Rd.nil enI64 _ none 0) hS3 (by unfold maxLen; simp) (by unfold maxLen; simp) hnr
  clear hnr
  have hI4 := hI3.step hb3
  clear hI2 hI3 hB2 hR2 hS3 hown2 hg2 hat2 hbk hb1 hb3 d0 d1 d2 dl
  go_wp2_with fail
  refine hfew.mono ?_
  rintro x w3 ⟨q1, rfl, hb⟩
  have hI5 := hI4.step hb
  clear hfew hI4 hb
  go_wp2_with fail
  refine (few17 _ e w3 hI5.e hne).mono ?_
  rintro x w4 ⟨q2, rfl, hb⟩
  have hI6 := hI5.step hb
  clear hI5 hb
  have hret : ∀ w5, Below w4.heap.size w4 w5 → Below w.heap.size w w5 := fun w5 h5 => below_step hI6.bel h5
  rcases q1
  · go_wp2
    go_ret
    exact ⟨rfl, hret _ (Below.refl _ _)⟩
  rcases q2
  · go_wp2
    go_ret
    exact ⟨rfl, hret _ (Below.refl _ _)⟩
  clear hret
  obtain ⟨d0, d1, d2, dl⟩ := hI6.cells
  have hcS : ∀ w', Below w4.heap.size w4 w' → w'.cell? ⟨w.heap.size, 0, none⟩ = some (.string r.name) ∧ w'.cell? ⟨w.heap.size, 1, none⟩ = some (.int .i64 r.lo) ∧ w'.cell? ⟨w.heap.size, 2, none⟩ = some (.int .i64 r.hi) := fun w' h => by
    obtain ⟨d0, d1, d2, _⟩ := (hI6.step h).cells
    exact ⟨d0, d1, d2⟩
  have hone : ∀ x ∈ l, ∀ u ∈ x.cells, u.oneCell' = true := by intro x _ u hu; simp [Rng.cells] at hu; rcases hu with rfl | rfl | rfl <;> rfl
  have hone1 : ∀ x ∈ [r], ∀ u ∈ x.cells, u.oneCell' = true := by intro x _ u hu; simp [Rng.cells] at hu; rcases hu with rfl | rfl | rfl <;> rfl
  have hB1 : Below w4.heap.size w4 (w4.alloc (.cells #[] 46)) := (Below.refl _ _).alloc (Nat.le_refl _) _
  have hB2 : Below w4.heap.size w4 (w4.alloc (.cells #[.string r.name, .int .i64 r.lo, .int .i64 r.hi] 46)) := (Below.refl _ _).alloc (Nat.le_refl _) _
  have hB12 := below_drew (below_alloc hB1 (.cells #[.string r.name, .int .i64 r.lo, .int .i64 r.hi] 46))
  have hB21 := below_drew (below_alloc hB2 (.cells #[] 46))
  replace hB1 := below_drew hB1
  replace hB2 := below_drew hB2
  have hOa : (w4.alloc (.cells #[] 46)).drew.ownsRow w4.heap.size 46 3 (.slice (some ⟨w4.heap.size, 0, none⟩) 0 0) 0 [] := own_new (n := 0) (cs := #[]) (Blk.new w4 46 #[]) rfl (by decide) (Nat.le_refl _) rfl
  have hOb : ((w4.alloc (.cells #[] 46)).alloc (.cells #[.string r.name, .int .i64 r.lo, .int .i64 r.hi] 46)).drew.ownsRow w4.heap.size 46 3 (.slice (some ⟨w4.heap.size, 0, none⟩) 0 0) 0 [] := own_new (n := 0) (cs := #[]) ((Blk.new w4 46 #[]).alloc _) rfl (by decide) (Nat.le_refl _) rfl
  have hLb : Blk ((w4.alloc (.cells #[] 46)).alloc (.cells #[.string r.name, .int .i64 r.lo, .int .i64 r.hi] 46)).drew (w4.heap.size + 1) 46 #[.string r.name, .int .i64 r.lo, .int .i64 r.hi] := by
    have := Blk.new (w4.alloc (.cells #[] 46)) 46 #[.string r.name, .int .i64 r.lo, .int .i64 r.hi]
    rw [World.size_alloc] at this
    exact this
  have hLc : Blk ((w4.alloc (.cells #[.string r.name, .int .i64 r.lo, .int .i64 r.hi] 46)).alloc (.cells #[] 46)).drew w4.heap.size 46 #[.string r.name, .int .i64 r.lo, .int .i64 r.hi] := (Blk.new w4 46 _).alloc _
  have hOc : ((w4.alloc (.cells #[.string r.name, .int .i64 r.lo, .int .i64 r.hi] 46)).alloc (.cells #[] 46)).drew.ownsRow w4.heap.size 46 3 (.slice (some ⟨w4.heap.size + 1, 0, none⟩) 0 0) 0 [] := by
    have := Blk.new (w4.alloc (.cells #[.string r.name, .int .i64 r.lo, .int .i64 r.hi] 46)) 46 #[]
    rw [World.size_alloc] at this
    exact own_new (n := 0) (cs := #[]) this rfl (by decide) (by omega) rfl
  go_upto_region 6 with fail
  go_cut [12] (fun s12 wx => ∃ A7 c7, s12 = .slice A7 (l.length + 1) c7 ∧ enRng.Rd wx (.slice A7 (l.length + 1) c7) (l ++ [r]) ∧ Below w4.heap.size w4 wx)
  case first =>
    go_region_held3 (fun w' => w'.cell? ⟨w.heap.size, 0, none⟩ = some (.string r.name) ∧ w'.cell? ⟨w.heap.size, 1, none⟩ = some (.int .i64 r.lo) ∧ w'.cell? ⟨w.heap.size, 2, none⟩ = some (.int .i64 r.hi))
      (first | exact hcS _ hB7 | exact hcS _ hB5l | exact hcS _ hB5 | exact hcS _ hB12 | exact hcS _ hB21 | exact hcS _ hB1 | exact hcS _ hB2 | exact hcS _ (Below.refl _ _) | exact hcS _ (below_drew (Below.refl _ _)))
      (first
        | (refine step_app_rd (f := Rng.cells) (hm := fun _ => rfl) rfl _ _ 37 rfl 46 _ 32 Try.underlying37 Try.info46 rfl (by decide) (by decide) w4.heap.size _ l.length _ (by rfl) (hown5.alloc _) _ [r] (fun k => k < (w5.alloc (.cells #[.string r.name, .int .i64 r.lo, .int .i64 r.hi] 46)).heap.size) (by rfl) (blk_flat (Blk.new w5 46 #[.string r.name, .int .i64 r.lo, .int .i64 r.hi]) rfl (Nat.le_refl 1) (Blk.lt (Blk.new w5 46 #[.string r.name, .int .i64 r.lo, .int .i64 r.hi])) rfl) hone1 (by simp; omega) hB5l.size ?_; intro A7 c7 w7 hown7 hg7 hat7; have hB7 := below_app hB5l hg7 hat5)
        | (refine step_app_rd (f := Rng.cells) (hm := fun _ => rfl) rfl _ _ 37 rfl 46 _ 32 Try.underlying37 Try.info46 rfl (by decide) (by decide) w4.heap.size _ l.length _ (by rfl) hown5 _ [r] (fun k => k < w5.heap.size) (by rfl) (blk_flat hlit5 rfl (Nat.le_refl 1) hlit5.lt rfl) hone1 (by simp; omega) hB5.size ?_; intro A7 c7 w7 hown7 hg7 hat7; have hB7 := below_app hB5 hg7 hat5)
        | (refine step_app_rd0 (f := Rng.cells) (hm := fun _ => rfl) rfl _ _ 37 rfl 46 _ 32 Try.underlying37 Try.info46 rfl (by decide) (by decide) w4.heap.size _ (by rfl) hOa _ l _ (by rfl) (hI6.l.below hB1) hone (by omega) hB1.size ?_; intro A5 c5 w5 hown5 hg5 hat5; replace hat5 := own_bound hown5; have hB5 := below_app hB1 hg5 (own_bound hOa); have hB5l := below_alloc hB5 (.cells #[.string r.name, .int .i64 r.lo, .int .i64 r.hi] 46))
        | (refine step_app_rd0 (f := Rng.cells) (hm := fun _ => rfl) rfl _ _ 37 rfl 46 _ 32 Try.underlying37 Try.info46 rfl (by decide) (by decide) w4.heap.size _ (by rfl) hOb _ l _ (by rfl) (hI6.l.below hB12) hone (by omega) hB12.size ?_; intro A5 c5 w5 hown5 hg5 hat5; replace hat5 := own_bound hown5; have hB5 := below_app hB12 hg5 (own_bound hOb); have hlit5 := hLb.grown hg5 (by simp [Value.ownBlock]))
        | (refine step_app_rd0 (f := Rng.cells) (hm := fun _ => rfl) rfl _ _ 37 rfl 46 _ 32 Try.underlying37 Try.info46 rfl (by decide) (by decide) w4.heap.size _ (by rfl) hOc _ l _ (by rfl) (hI6.l.below hB21) hone (by omega) hB21.size ?_; intro A5 c5 w5 hown5 hg5 hat5; replace hat5 := own_bound hown5; have hB5 := below_app hB21 hg5 (own_bound hOc); have hlit5 := hLc.grown hg5 (by simp [Value.ownBlock])))
    all_goals
      go_wp2_with fail
      go_meet
      exact ⟨A7, c7, rfl, own_sl (xs := l ++ [r]) (by rw [List.length_append, List.flatMap_append]; exact hown7) (own_lt hown7), hB7⟩
  case rest =>
    obtain ⟨A7, c7, rfl, hall, hB7⟩ := hcut
    have hI7 := hI6.step hB7
    obtain ⟨d0, d1, d2, dl⟩ := hI7.cells
    clear hI6 hcS hone hone1 hB1 hB2 hB12 hB21 hOa hOb hOc hLb hLc hB7
    have hev : ∀ w5, (w5 : World).heap.size = wc.heap.size + 1 → enAttr.Rd (w5.alloc (.cells #[.string r.name, .int .i64 1, .int .i64 n, .string ⟨#[]⟩] 50)) (.slice (some ⟨wc.heap.size + 1, 0, none⟩) 1 1) [⟨r.name, ⟨1, n, ⟨#[]⟩⟩⟩] := fun w5 h5 => by
      have := Blk.new w5 50 #[.string r.name, .int .i64 1, .int .i64 n, .string ⟨#[]⟩]
      rw [h5] at this
      exact blk_flat this rfl (Nat.le_refl 1) (by simp [h5]) rfl
    have hbl : Below wc.heap.size wc ((wc.alloc (.cells #[.string r.name, .int .i64 r.lo, .int .i64 r.hi] 46)).alloc (.cells #[.string r.name, .int .i64 1, .int .i64 n, .string ⟨#[]⟩] 50)) := below_alloc ((Below.refl _ _).alloc (Nat.le_refl _) _) _
    have hone : enRng.Rd ((wc.alloc (.cells #[.string r.name, .int .i64 r.lo, .int .i64 r.hi] 46)).alloc (.cells #[.string r.name, .int .i64 1, .int .i64 n, .string ⟨#[]⟩] 50)) (.slice (some ⟨wc.heap.size, 0, none⟩) 1 1) [r] := blk_flat ((Blk.new wc 46 #[.string r.name, .int .i64 r.lo, .int .i64 r.hi]).alloc _) rfl (Nat.le_refl 1) (by simp; omega) rfl
    have hmt := meets18 _ _ _ _ _ hone (hev _ (by simp)) (by unfold maxLen; simp) (by unfold maxLen; simp)
    rw [meets_one] at hmt
    have hI8 := hI7.step hbl
    have hall8 := hall.below hbl
    clear hI7 hall hone hev hbl
    go_wp2_with fail
    refine hmt.mono ?_
    rintro x w8 ⟨rfl, hb⟩
    have hI9 := hI8.step hb
    have hall9 := hall8.below hb
    have hlen : (l ++ [r]).length ≤ maxLen := by rw [List.length_append]; simp only [List.length_cons, List.length_nil, maxLen]; omega
    have hm1 := meets18 _ _ _ _ _ hall9 hI9.e hlen hne
    rw [meets_more] at hm1
    obtain ⟨d0, d1, d2, dl⟩ := hI9.cells
    clear hmt hI8 hall8 hb hlen
    go_wp2_with fail
    refine hm1.mono ?_
    rintro x w10 ⟨rfl, hb⟩
    have hI10 := hI9.step hb
    have hm2 := meets18 _ _ _ _ _ hI10.l hI10.e (by unfold maxLen; omega) hne
    clear hm1 hb hI9 hall9 d0 d1 d2 dl
    cases hfl : fmeets l e
    · rw [hfl] at hm2
      go_wp2_with fail
      refine hm2.mono ?_
      rintro x w11 ⟨rfl, hb⟩
      have hI11 := hI10.step hb
      obtain ⟨d0, d1, d2, dl⟩ := hI11.cells
      clear hm2 hI10 hb
      have hB := hI11.bel
      by_cases h1 : r.lo ≤ n
      · by_cases h2 : n ≤ r.hi
        · have t1 : decide (r.lo ≤ n) = true := by simpa using h1
          have t2 : decide (n ≤ r.hi) = true := by simpa using h2
          go_wp2
          go_ret
          exact ⟨by simp [h1, h2], hB⟩
        · go_wp2
          go_ret
          exact ⟨by simp [h1, h2], hB⟩
      · go_wp2
        go_ret
        exact ⟨by simp [h1], hB⟩
    · rw [hfl] at hm2
      go_wp2_with fail
      refine hm2.mono ?_
      rintro x w11 ⟨rfl, hb⟩
      have hI11 := hI10.step hb
      obtain ⟨d0, d1, d2, dl⟩ := hI11.cells
      clear hm2 hI10 hb
      have hbl : Below w11.heap.size w11 (w11.alloc (.cells #[.string r.name, .int .i64 r.lo, .int .i64 r.hi] 46)) := (Below.refl _ _).alloc (Nat.le_refl _) _
      have hone : enRng.Rd (w11.alloc (.cells #[.string r.name, .int .i64 r.lo, .int .i64 r.hi] 46)) (.slice (some ⟨w11.heap.size, 0, none⟩) 1 1) [r] := blk_flat (Blk.new w11 46 #[.string r.name, .int .i64 r.lo, .int .i64 r.hi]) rfl (Nat.le_refl 1) (by simp) rfl
      have hI12 := hI11.step hbl
      have hm3 := meets18 _ _ _ _ _ hone hI12.e (by unfold maxLen; simp) hne
      clear hI11 hone hbl
      go_wp2_with fail
      refine hm3.mono ?_
      rintro x w13 ⟨rfl, hb⟩
      have hI13 := hI12.step hb
      obtain ⟨d0, d1, d2, dl⟩ := hI13.cells
      have hB := hI13.bel
      clear hm3 hI12 hb
      by_cases h1 : r.lo ≤ n
      · by_cases h2 : n ≤ r.hi
        · go_wp2
          go_ret
          exact ⟨by simp [h1, h2], hB⟩
        · go_wp2
          go_ret
          exact ⟨by simp [h1, h2], hB⟩
      · go_wp2
        go_ret
        exact ⟨by simp [h1], hB⟩
end Go.Proofs.Ytamaihlpdebekaa
