/- rosetteref15: Decode. -/
import Derived.Test.YtamaihlpdebekaaGE
namespace Go.Proofs.Ytamaihlpdebekaa
open Go.RowKit
set_option linter.unusedVariables false
set_option linter.unusedSimpArgs false

theorem OwnSubs.below {w w1 : World} {base : Nat} {v : Value} {ys : List (FSub × Value)} (h : OwnSubs w base v ys) (hb : Below w.heap.size w w1) : OwnSubs w1 base v ys :=
  ⟨own_below h.1 hb, fun p hp => own_below (h.2 p hp) hb⟩

theorem own_len {w : World} {base n : Nat} {e : TypeId} {size : Nat} {v : Value} {xs : List Value} (h : w.ownsRow base e size v n xs) : n ≤ maxLen := by
  rcases h.2 with ⟨rfl, rfl⟩ | ⟨g, cap, cur, rfl, hb, hg, hn, hc, _⟩
  · exact Nat.zero_le _
  · exact Nat.le_trans hn hc

/-- What holds in Decode all along: the result's cell, the state's box, what was read so far, the scanner. -/
structure DInv (w : World) (wr : World) (vL vS : Value) (xs : List Int) (ys : List (FSub × Value)) (st : RSt) : Prop where
  z : Blk wr w.heap.size 25 #[.slice none 0 0, .slice none 0 0]
  f : Blk wr (w.heap.size + 2) 25 #[vL, vS]
  l : wr.ownsRow (w.heap.size + 3) 3 1 vL xs.length (xs.map fun n => .int .i64 n)
  s : OwnSubs wr (w.heap.size + 3) vS ys
  r : RdrAt 65 wr w.heap.size (w.heap.size + 1) st
  b : Below w.heap.size w wr
  sz : w.heap.size + 3 ≤ wr.heap.size
theorem DInv.read {w wr w' : World} {vL vS : Value} {xs : List Int} {ys : List (FSub × Value)} {st st' : RSt} (h : DInv w wr vL vS xs ys st) (hg : wr.grownBy w' (some (w.heap.size + 1))) (hr : RdrAt 65 w' w.heap.size (w.heap.size + 1) st') : DInv w w' vL vS xs ys st' :=
  ⟨h.z.grown hg (by simp), h.f.grown hg (by simp), own_grown h.l hg (by omega), h.s.grown hg (by omega), hr, h.b.grown hg h.b.size (fun k hk => by cases hk; omega), Nat.le_trans h.sz hg.size⟩
theorem DInv.cells {w wr : World} {vL vS : Value} {xs : List Int} {ys : List (FSub × Value)} {st : RSt} (h : DInv w wr vL vS xs ys st) :
    wr.cell? ⟨w.heap.size + 2, 0, none⟩ = some vL ∧ wr.cell? ⟨w.heap.size + 2, 1, none⟩ = some vS ∧ wr.frozen? ⟨w.heap.size + 2, 0, none⟩ = false ∧ wr.frozen? ⟨w.heap.size + 2, 1, none⟩ = false ∧ w.heap.size + 2 < wr.heap.size :=
  ⟨(h.f.cell 0).trans rfl, (h.f.cell 1).trans rfl, h.f.frozen 0, h.f.frozen 1, h.f.lt⟩
theorem DInv.errc {w wr : World} {vL vS : Value} {xs : List Int} {ys : List (FSub × Value)} {st : RSt} (h : DInv w wr vL vS xs ys st) :
    wr.cell? ⟨w.heap.size + 1, 1, none⟩ = some (.int .i64 st.2) := by
  obtain ⟨v, hb, _⟩ := h.r
  exact (hb.cell 1).trans rfl

theorem DInv.pushL {w w5 w6 : World} {vL vS v' : Value} {xs : List Int} {ys : List (FSub × Value)} {st : RSt} {o : Obj} {y : Int} {n : Nat} (h : DInv w w5 vL vS xs ys st)
    (ho : w6.ownsRow (w.heap.size + 3) 3 1 v' n ((xs.map fun n => .int .i64 n) ++ [.int .i64 y])) (hn : n = xs.length + 1) (hg : (w5.alloc o).grownBy w6 vL.ownBlock) : DInv w (w6.setCell ⟨w.heap.size + 2, 0, none⟩ v') v' vS (xs ++ [y]) ys st := by
  have hl := h.l.alloc o
  have hbd := own_bound hl
  have hz := (h.z.alloc o).grown hg (own_blk_ne hl (h.z.alloc o) (by decide))
  have hf := (h.f.alloc o).grown hg (own_blk_ne hl (h.f.alloc o) (by decide))
  have hb := (below_alloc h.b o).grown hg (below_alloc h.b o).size (fun k hk => by have := hbd k hk; omega)
  have hs := hg.size
  have hsz := h.sz
  rw [World.size_alloc] at hs
  refine ⟨hz.far (by simp) _, hf.set_ 0 _, ?_, ?_, ?_, below_set hb (by omega), by simp [World.setCell]; omega⟩
  · rw [List.length_append, List.map_append, show xs.length + [y].length = n by rw [hn]; rfl]
    exact own_set ho (own_ne_lt ho (by omega)) _
  · have h1 := h.s.alloc o
    exact OwnSubs.set_ (⟨h1.1.kept hg (own_types h1.1 hl (by decide)), fun p hp => (h1.2 p hp).kept hg (own_types (h1.2 p hp) hl (by decide))⟩ : OwnSubs w6 _ _ _) (by omega) _
  · exact ((h.r.alloc o).keep hg (fun k hk => by have := hbd k hk; omega)).far (by omega) _

theorem DInv.pushS {w w5 w6 : World} {vL vS v' u : Value} {xs : List Int} {ys : List (FSub × Value)} {st : RSt} {o : Obj} {x : FSub} {n : Nat} {cs : List Value} (h : DInv w w5 vL vS xs ys st)
    (hu : w5.ownsRow (w.heap.size + 3) 46 3 u x.ranges.length (x.ranges.flatMap Rng.cells))
    (ho : w6.ownsRow (w.heap.size + 3) 40 3 v' n (ys.flatMap (fun p => [.int .i64 p.1.id, .int .i64 p.1.from_, p.2]) ++ cs)) (hcs : cs = [.int .i64 x.id, .int .i64 x.from_, u]) (hn : n = ys.length + 1) (hg : (w5.alloc o).grownBy w6 vS.ownBlock) :
    DInv w (w6.setCell ⟨w.heap.size + 2, 1, none⟩ v') vL v' xs (ys ++ [(x, u)]) st := by
  have h1 := h.s.alloc o
  have hbd := own_bound h1.1
  have hz := (h.z.alloc o).grown hg (own_blk_ne h1.1 (h.z.alloc o) (by decide))
  have hf := (h.f.alloc o).grown hg (own_blk_ne h1.1 (h.f.alloc o) (by decide))
  have hl := (h.l.alloc o).kept hg (own_types (h.l.alloc o) h1.1 (by decide))
  have hb := (below_alloc h.b o).grown hg (below_alloc h.b o).size (fun k hk => by have := hbd k hk; omega)
  have hs := hg.size
  have hsz := h.sz
  rw [World.size_alloc] at hs
  exact ⟨hz.far (by simp) _, hf.set_ 1 _, own_set hl (own_ne_lt hl (by omega)) _, (OwnSubs.snoc h1 (hu.alloc o) ho hcs hn hg).set_ (by omega) _,
    ((h.r.alloc o).keep hg (fun k hk => by have := hbd k hk; omega)).far (by omega) _, below_set hb (by omega), by simp [World.setCell]; omega⟩

/-- What holds while one subscription is read. -/
structure SInv (w wr : World) (X : Nat) (wi : World) (sid from_ : Int) (v : Value) (zs : List Rng) (st : RSt) : Prop where
  x : Blk wi X 40 #[.int .i64 sid, .int .i64 from_, v]
  own : wi.ownsRow (X + 1) 46 3 v zs.length (zs.flatMap Rng.cells)
  r : RdrAt 65 wi w.heap.size (w.heap.size + 1) st
  g : wr.grownBy wi (some (w.heap.size + 1))
  lt : wr.heap.size ≤ X
  sz : w.heap.size + 3 ≤ wr.heap.size
theorem SInv.read {w wr wi w' : World} {X : Nat} {sid from_ : Int} {v : Value} {zs : List Rng} {st st' : RSt} (h : SInv w wr X wi sid from_ v zs st) (hg : wi.grownBy w' (some (w.heap.size + 1))) (hr : RdrAt 65 w' w.heap.size (w.heap.size + 1) st') : SInv w wr X w' sid from_ v zs st' := by
  have h1 := h.lt
  have h2 := h.sz
  exact ⟨h.x.grown hg (by simp; omega), own_grown h.own hg (by omega), hr, h.g.trans hg, h1, h2⟩
theorem SInv.alloc {w wr wi : World} {X : Nat} {sid from_ : Int} {v : Value} {zs : List Rng} {st : RSt} (h : SInv w wr X wi sid from_ v zs st) (o : Obj) : SInv w wr X (wi.alloc o) sid from_ v zs st :=
  ⟨h.x.alloc o, h.own.alloc o, h.r.alloc o, grown_allocOn h.g o, h.lt, h.sz⟩
/-- A cell of a block beside all this. -/
theorem SInv.far {w wr wi : World} {X b j : Nat} {sid from_ : Int} {v u : Value} {zs : List Rng} {st : RSt} (h : SInv w wr X wi sid from_ v zs st) (hb : X < b) (hne : some b ≠ v.ownBlock) : SInv w wr X (wi.setCell ⟨b, j, none⟩ u) sid from_ v zs st := by
  have h1 := h.lt
  have h2 := h.sz
  exact ⟨h.x.far (by simp; omega) _, own_set h.own hne _, h.r.far (by omega) _, grown_setFar h.g (by omega) _, h1, h2⟩
theorem SInv.from {w wr wi : World} {X : Nat} {sid from_ f' : Int} {v : Value} {zs : List Rng} {st : RSt} (h : SInv w wr X wi sid from_ v zs st) : SInv w wr X (wi.setCell ⟨X, 1, none⟩ (.int .i64 f')) sid f' v zs st := by
  have h1 := h.lt
  have h2 := h.sz
  exact ⟨h.x.set_ 1 _, own_set h.own (own_ne_lt h.own (by omega)) _, h.r.far (by omega) _, grown_setFar h.g (by omega) _, h1, h2⟩
theorem SInv.push {w wr wi w6 : World} {X n : Nat} {sid from_ : Int} {v v' : Value} {zs : List Rng} {st : RSt} {o : Obj} {x : Rng} (h : SInv w wr X wi sid from_ v zs st)
    (ho : w6.ownsRow (X + 1) 46 3 v' n (zs.flatMap Rng.cells ++ x.cells)) (hn : n = zs.length + 1) (hg : (wi.alloc o).grownBy w6 v.ownBlock) : SInv w wr X (w6.setCell ⟨X, 2, none⟩ v') sid from_ v' (zs ++ [x]) st := by
  have h1 := h.lt
  have h2 := h.sz
  have hbd := own_bound h.own
  refine ⟨((h.x.alloc o).grown hg (own_blk_ne (h.own.alloc o) (h.x.alloc o) (by decide))).set_ 2 _, ?_, ?_, ?_, h1, h2⟩
  · rw [List.length_append, List.flatMap_append, show zs.length + [x].length = n by rw [hn]; rfl, List.flatMap_singleton]
    exact own_set ho (own_ne_lt ho (by omega)) _
  · exact ((h.r.alloc o).keep hg (fun k hk => by have := hbd k hk; omega)).far (by omega) _
  · exact grown_setFar (grown_on (grown_allocOn h.g o) hg (fun k hk => .inr (by have := hbd k hk; omega))) (by omega) _
theorem SInv.cells {w wr wi : World} {X : Nat} {sid from_ : Int} {v : Value} {zs : List Rng} {st : RSt} (h : SInv w wr X wi sid from_ v zs st) :
    wi.cell? ⟨X, 0, none⟩ = some (.int .i64 sid) ∧ wi.cell? ⟨X, 1, none⟩ = some (.int .i64 from_) ∧ wi.cell? ⟨X, 2, none⟩ = some v ∧ wi.frozen? ⟨X, 1, none⟩ = false ∧ wi.frozen? ⟨X, 2, none⟩ = false ∧ X < wi.heap.size ∧ wi.cell? ⟨w.heap.size + 1, 1, none⟩ = some (.int .i64 st.2) := by
  obtain ⟨vr, hb, _⟩ := h.r
  exact ⟨(h.x.cell 0).trans rfl, (h.x.cell 1).trans rfl, (h.x.cell 2).trans rfl, h.x.frozen 1, h.x.frozen 2, h.x.lt, (hb.cell 1).trans rfl⟩
theorem numR_nat (k : Nat) (s : RSt) : ∃ z : Nat, (numR k s).1 = z ∧ z < 256 ^ k := by
  refine ⟨beN (takeR s k).1, rfl, Nat.lt_of_lt_of_le (beN_lt _) (Nat.pow_le_pow_right (by omega) (takeR_len s k))⟩
theorem fourR_sign (s : RSt) : fourR s = (signZ (numR 4 s).1, (numR 4 s).2) := by
  unfold fourR signZ numR
  simp only
  congr 1
  by_cases h : beN (takeR s 4).1 < 2147483648
  · rw [if_pos h, if_neg (by omega)]
  · rw [if_neg h, if_pos (by omega)]

set_option maxHeartbeats 4000000 in
set_option maxRecDepth 100000 in
theorem dec13_main (A : Option Addr) (c n : Nat) (bs : List UInt8) (w : World) (hb : enU8.Rd w (.slice A n c) bs) (hl : bs.length ≤ maxLen) (hln : n ≤ 9223372036854775807) (hlc : n ≤ c) (h4 : ¬ n < 4)
    (hh : headE bs 1 = 0) (R : First × Int) (HR : Aside (R = decU (bs.drop 4))) :
    Calls Try.prog 13 #[.slice A n c] w (DecPost w R) := by
  have hB0 : Below w.heap.size w (w.alloc (.cells #[.slice none 0 0, .slice none 0 0] 25)) := (Below.refl _ _).alloc (Nat.le_refl _) _
  have hhead := head29 (.slice A n c) bs 1 _ (hb.below hB0) hl
  rw [hh] at hhead
  have i4 : (4 : Int) ≤ (n : Int) := by omega
  have i4c : (4 : Int) ≤ (c : Int) := by omega
  have hl4 : (bs.drop 4, (0 : Int)).1.length ≤ maxLen := by simp; omega
  have hd := En.Sl.drop hb 4 (by omega)
  rw [show enU8.sz = 1 from rfl] at hd
  generalize bs.drop 4 = left at *
  clear hb hl hh
  go_enter Try.func13, Try.ntmps13
  go_wp2_with fail
  refine hhead.mono ?_
  rintro e wh ⟨rfl, hwh⟩
  subst hwh
  go_upto_region 4 with fail
  go_cut [5] (fun s5 wx => s5 = .pointer (some ⟨w.heap.size + 1, 0, none⟩) ∧ RdrAt 65 wx w.heap.size (w.heap.size + 1) (left, 0) ∧ Blk wx w.heap.size 25 #[.slice none 0 0, .slice none 0 0] ∧ Below w.heap.size w wx ∧ wx.heap.size = w.heap.size + 2)
  case first =>
    have hbk : Blk (w.alloc (.cells #[.slice none 0 0, .slice none 0 0] 25)) w.heap.size 25 #[.slice none 0 0, .slice none 0 0] := Blk.new _ _ _
    have hbw : ∀ v, Blk ((w.alloc (.cells #[.slice none 0 0, .slice none 0 0] 25)).alloc (.cells #[v, .int .i64 0] 65)) (w.heap.size + 1) 65 #[v, .int .i64 0] := fun v => by
      have := Blk.new (w.alloc (.cells #[.slice none 0 0, .slice none 0 0] 25)) 65 #[v, .int .i64 0]
      rwa [World.size_alloc] at this
    have hmv : ∀ v k, k < w.heap.size → ((w.alloc (.cells #[.slice none 0 0, .slice none 0 0] 25)).alloc (.cells #[v, .int .i64 0] 65)).heap[k]? = w.heap[k]? := fun v k hk =>
      (below_alloc hB0 (.cells #[v, .int .i64 0] 65)).block k hk
    by_cases hc4 : c = 4
    · subst hc4
      obtain rfl : n = 4 := by omega
      rw [if_pos rfl] at hd
      have HD := Aside.mk hd
      clear hd
      go_wp2_with fail
      go_meet
      exact ⟨rfl, ⟨_, hbw _, HD.out.move (hmv _) (fun k hk => hk), Nat.le_succ _⟩, hbk.alloc _, below_alloc hB0 _, by simp⟩
    · rw [if_neg hc4] at hd
      have HD := Aside.mk hd
      clear hd
      go_wp2_with fail
      go_meet
      exact ⟨rfl, ⟨_, hbw _, HD.out.move (hmv _) (fun k hk => hk), Nat.le_succ _⟩, hbk.alloc _, below_alloc hB0 _, by simp⟩
  case rest =>
    obtain ⟨rfl, hr, hz, hB, hsz⟩ := hcut
    have hI0 : DInv w (wc.alloc (.cells #[.slice none 0 0, .slice none 0 0] 25)) (.slice none 0 0) (.slice none 0 0) [] [] (left, 0) := by
      refine ⟨hz.alloc _, ?_, World.ownsRow_nil _ _ _ _, OwnSubs.nil _ _, hr.alloc _, below_alloc hB _, by simp; omega⟩
      have := Blk.new wc 25 #[.slice none 0 0, .slice none 0 0]
      rwa [hsz] at this
    have hcnt := count30 w.heap.size (w.heap.size + 1) (left, 0) 16 _ hI0.r hl4 (by omega)
    have hl5 := Nat.le_trans (countR_left (left, 0) 16) hl4
    obtain ⟨n1, hn1, hn16⟩ := countR_nat (left, 0) 16
    rw [show ((16 : Nat) : Int) = 16 from rfl] at hn1
    unfold decU at HR
    unfold NumPost at hcnt
    rw [hn1] at hcnt HR
    rw [Int.toNat_natCast] at HR
    have HSZ := Aside.mk hsz
    generalize (countR (left, 0) 16).2 = s1 at *
    clear hn1 hr hz hB hsz hd hB0 i4 i4c hhead hl4 hln hlc h4
    go_wp2_with fail
    refine hcnt.mono ?_
    rintro e w1 ⟨rfl, hr1, hg1⟩
    have hI1 := hI0.read hg1 hr1
    rw [HSZ.out]
    clear hcnt hI0 hr1 hg1 HSZ
    go_wp2_with fail
    go_loopw [8] (fun j wr => ∃ k : Nat, ∃ st : RSt, ∃ xs : List Int, ∃ v : Value, j = .int .i64 k ∧ k ≤ n1 ∧ xs.length = k ∧ st.1.length ≤ maxLen ∧
        Aside (loopU twoR n1 s1 = (xs ++ (loopU twoR (n1 - k) st).1, (loopU twoR (n1 - k) st).2)) ∧ DInv w wr v (.slice none 0 0) xs [] st) (fun j wr => n1 - (intOf j).toNat)
    case atStart => exact ⟨0, s1, [], _, rfl, Nat.zero_le _, rfl, hl5, ⟨by simp⟩, hI1⟩
    case round =>
      clear hI1
      obtain ⟨k, st, xs, v, rfl, hk, hxk, hlst, HE, hI⟩ := hrel
      obtain ⟨c0, c1, f0, f1, hlt2⟩ := hI.cells
      by_cases hlt : k < n1
      · have htwo := num31 w.heap.size (w.heap.size + 1) 2 st wr.drew hI.r hlst (by omega)
        have hl4 := Nat.le_trans (twoR_left st) hlst
        have HL : Aside (loopU twoR n1 s1 = ((xs ++ [(twoR st).1]) ++ (loopU twoR (n1 - (k + 1)) (twoR st).2).1, (loopU twoR (n1 - (k + 1)) (twoR st).2).2)) := ⟨by
          rw [HE.out, show n1 - k = (n1 - (k + 1)) + 1 by omega, loopU]; simp⟩
        rw [show numR 2 st = twoR st from rfl] at htwo
        clear HE
        generalize twoR st = r5 at *
        obtain ⟨r5, s5⟩ := r5
        unfold NumPost at htwo
        simp only at *
        have HXK := Aside.mk hxk
        clear hxk
        go_wp2
        go_region_law (first | (refine step_app_lit rfl _ _ 22 rfl 3 (.int .i64 0) 1 8 Try.underlying22 Try.info3 rfl (by decide) (by decide) (w.heap.size + 3) v xs.length _ (by rfl) (hI5.l.alloc _) w5.heap.size 1 1 #[.int .i64 r5] (by rfl) (Blk.new _ _ _) rfl (by simp [Value.oneCell']) (by decide) (by have := HXK.out; omega) (by have := hI5.sz; simp; omega) ?_; intro gg cap w6 hown6 hgr6 hat hlt6; have hI6 := hI5.pushL hown6 rfl hgr6; have hf6 : w6.frozen? ⟨w.heap.size + 2, 0, none⟩ = false := Blk.frozen ((hI5.f.alloc (.cells #[.int .i64 r5] 3)).grown hgr6 (own_blk_ne (hI5.l.alloc (.cells #[.int .i64 r5] 3)) (hI5.f.alloc (.cells #[.int .i64 r5] 3)) (by decide))) 0; have hd6 : w6.cell? ⟨w.heap.size + 2, 0, none⟩ = some v := (Blk.cell ((hI5.f.alloc (.cells #[.int .i64 r5] 3)).grown hgr6 (own_blk_ne (hI5.l.alloc (.cells #[.int .i64 r5] 3)) (hI5.f.alloc (.cells #[.int .i64 r5] 3)) (by decide))) 0).trans rfl) | (go_simp; go_at_call 31; refine htwo.mono ?_; rintro e w5 ⟨rfl, hr5, hg5⟩; have hI5 := hI.read (grown_undrew hg5) hr5; obtain ⟨c0, c1, f0, f1, hlt2⟩ := hI5.cells; dsimp only))
        all_goals
          have HN : Aside ((xs ++ [r5]).length = k + 1) := ⟨by rw [List.length_append, HXK.out]; rfl⟩
          clear HXK hI hI5 htwo hr5 hg5 hown6 hgr6 hat hlt6 hf6 hd6
          go_wp2
          go_roundw
          case rel => exact ⟨k + 1, s5, xs ++ [r5], _, by go_num, by omega, HN.out, hl4, HL, hI6⟩
          case measure => simp [intOf]; omega
      · obtain rfl : k = n1 := by omega
        have HX : Aside (R = decC (xs, st)) := ⟨by rw [HR.out, HE.out, Nat.sub_self]; simp [loopU]⟩
        clear HR HE
        have hcnt := count30 w.heap.size (w.heap.size + 1) st 64 wr hI.r hlst (by omega)
        have hl6 := Nat.le_trans (countR_left st 64) hlst
        obtain ⟨n2, hn2, hn64⟩ := countR_nat st 64
        rw [show ((64 : Nat) : Int) = 64 from rfl] at hn2
        unfold decC at HX
        simp only at HX
        unfold NumPost at hcnt
        rw [hn2] at hcnt HX
        rw [Int.toNat_natCast] at HX
        generalize (countR st 64).2 = s2 at *
        clear hn2 c0 c1 f0 f1 hlst hlt hl5
        go_wp2_with fail
        refine hcnt.mono ?_
        rintro e w2 ⟨rfl, hr2, hg2⟩
        have hI2 := hI.read hg2 hr2
        clear hcnt hI hr2 hg2
        go_wp2_with fail
        go_loopw [9, 10, 11, 12, 13] (fun j u10 u11 u12 u13 wr => ∃ k : Nat, ∃ st : RSt, ∃ ys : List (FSub × Value), ∃ vS : Value, j = .int .i64 k ∧ k ≤ n2 ∧ ys.length = k ∧ st.1.length ≤ maxLen ∧
            Aside (loopR subR n2 s2 = (ys.map Prod.fst ++ (loopR subR (n2 - k) st).1, (loopR subR (n2 - k) st).2)) ∧ DInv w wr v vS xs ys st) (fun j u10 u11 u12 u13 wr => n2 - (intOf j).toNat)
        case atStart => exact ⟨0, s2, [], _, rfl, Nat.zero_le _, rfl, hl6, ⟨by simp⟩, hI2⟩
        case round =>
          clear hI2 hl6
          obtain ⟨k, st, ys, vS, rfl, hk2, hyk, hlst, HE, hI⟩ := hrel
          obtain ⟨wo, hwo⟩ : ∃ x, x = wr := ⟨_, rfl⟩
          subst hwo
          obtain ⟨c0, c1, f0, f1, hlt2⟩ := hI.cells
          have ce := hI.errc
          by_cases hlt : k < n2
          · by_cases he0 : st.2 = 0
            · have HL : Aside (loopR subR n2 s2 = (ys.map Prod.fst ++ ((subR st).1 :: (loopR subR (n2 - (k + 1)) (subR st).2).1), (loopR subR (n2 - (k + 1)) (subR st).2).2)) := ⟨by
                rw [HE.out, show n2 - k = (n2 - (k + 1)) + 1 by omega, loopR, if_pos he0]⟩
              rw [he0] at ce
              have htwo := num31 w.heap.size (w.heap.size + 1) 2 st wo hI.r hlst (by omega)
              have hlq := Nat.le_trans (twoR_left st) hlst
              rw [show numR 2 st = twoR st from rfl] at htwo
              obtain ⟨r0, HR0⟩ : ∃ r, Aside (subR st = r) := ⟨_, ⟨rfl⟩⟩
              rw [HR0.out] at HL
              unfold subR at HR0
              clear HE he0
              generalize twoR st = r1 at *
              obtain ⟨sid, sa⟩ := r1
              unfold NumPost at htwo
              simp only at *
              go_wp2_with fail
              refine htwo.mono ?_
              rintro e w3 ⟨rfl, hr3, hg3⟩
              go_wp2_with fail
              have hX3 : SInv w wo w3.heap.size (w3.alloc (.cells #[.int .i64 sid, .int .i64 0, .slice none 0 0] 40)) sid 0 (.slice none 0 0) [] sa := ⟨Blk.new _ _ _, World.ownsRow_nil _ _ _ _, hr3.alloc _, grown_allocOn hg3 _, hg3.size, hI.sz⟩
              clear htwo hr3 hg3
              generalize w3.heap.size = X at *
              generalize w3.alloc (.cells #[.int .i64 sid, .int .i64 0, .slice none 0 0] 40) = w4 at *
              have htwo := num31 w.heap.size (w.heap.size + 1) 2 sa w4 hX3.r hlq (by omega)
              have hlq2 := Nat.le_trans (twoR_left sa) hlq
              rw [show numR 2 sa = twoR sa from rfl] at htwo
              clear hlq
              generalize twoR sa = r2 at *
              obtain ⟨from_, sb⟩ := r2
              unfold NumPost at htwo
              simp only at *
              obtain ⟨x0, x1, x2, xf1, xf2, xlt, xe⟩ := hX3.cells
              refine htwo.mono ?_
              rintro e w5 ⟨rfl, hr5, hg5⟩
              have hX5 := hX3.read hg5 hr5
              obtain ⟨x0, x1, x2, xf1, xf2, xlt, xe⟩ := hX5.cells
              have hX6 := hX5.from (f' := from_)
              have hcnt := count30 w.heap.size (w.heap.size + 1) sb 12 _ hX6.r hlq2 (by omega)
              have hlq3 := Nat.le_trans (countR_left sb 12) hlq2
              obtain ⟨n3, hn3, hn12⟩ := countR_nat sb 12
              rw [show ((12 : Nat) : Int) = 12 from rfl] at hn3
              unfold NumPost at hcnt
              rw [hn3] at hcnt HR0
              rw [Int.toNat_natCast] at HR0
              generalize (countR sb 12).2 = sc at *
              clear htwo hX3 hr5 hg5 hX5 hn3 hlq2
              go_wp2_with fail
              refine hcnt.mono ?_
              rintro e w7 ⟨rfl, hr7, hg7⟩
              have hX7 := hX6.read hg7 hr7
              clear hcnt hX6 hr7 hg7 x0 x1 x2 xf1 xf2 xlt xe
              go_wp2_with fail
              go_loopw [12, 13] (fun j u13 wi => ∃ q : Nat, ∃ st3 : RSt, ∃ zs : List Rng, ∃ v3 : Value, j = .int .i64 q ∧ q ≤ n3 ∧ zs.length = q ∧ st3.1.length ≤ maxLen ∧
                  Aside (loopR rangeR n3 sc = (zs ++ (loopR rangeR (n3 - q) st3).1, (loopR rangeR (n3 - q) st3).2)) ∧ SInv w wo X wi sid from_ v3 zs st3) (fun j u13 wi => n3 - (intOf j).toNat)
              case atStart => exact ⟨0, sc, [], _, rfl, Nat.zero_le _, rfl, hlq3, ⟨by simp⟩, hX7⟩
              case round =>
                clear hX7 hlq3
                obtain ⟨q, st3, zs, v3, rfl, hq, hzq, hl3, HE3, hX⟩ := hrel
                obtain ⟨x0, x1, x2, xf1, xf2, xlt, xe⟩ := hX.cells
                by_cases hgo : q < n3 ∧ st3.2 = 0
                · obtain ⟨hltq, he3⟩ := hgo
                  have HL3 : Aside (loopR rangeR n3 sc = (zs ++ ((rangeR st3).1 :: (loopR rangeR (n3 - (q + 1)) (rangeR st3).2).1), (loopR rangeR (n3 - (q + 1)) (rangeR st3).2).2)) := ⟨by
                    rw [HE3.out, show n3 - q = (n3 - (q + 1)) + 1 by omega, loopR, if_pos he3]⟩
                  rw [he3] at xe
                  obtain ⟨rg, HRG⟩ : ∃ r, Aside (rangeR st3 = r) := ⟨_, ⟨rfl⟩⟩
                  rw [HRG.out] at HL3
                  have hlr := rangeR_left st3
                  rw [HRG.out] at hlr
                  have HLR := Aside.mk (Nat.le_trans hlr hl3)
                  unfold rangeR at HRG
                  have hcnt := count30 w.heap.size (w.heap.size + 1) st3 16 wr hX.r hl3 (by omega)
                  have hlk := Nat.le_trans (countR_left st3 16) hl3
                  obtain ⟨n4, hn4, hn16'⟩ := countR_nat st3 16
                  rw [show ((16 : Nat) : Int) = 16 from rfl] at hn4
                  unfold NumPost at hcnt
                  rw [hn4] at hcnt HRG
                  rw [Int.toNat_natCast] at HRG
                  generalize (countR st3 16).2 = sd at *
                  clear HE3 he3 hn4 hlr hl3
                  go_wp2_with fail
                  refine hcnt.mono ?_
                  rintro e w8 ⟨rfl, hr8, hg8⟩
                  have hX8 := hX.read hg8 hr8
                  have htk := take32 w.heap.size (w.heap.size + 1) n4 sd w8 hr8 (by unfold maxLen; omega) hlk
                  have hlk2 := Nat.le_trans (takeR_left sd n4) hlk
                  clear hcnt hX hr8 hg8 hlk x0 x1 x2 xf1 xf2 xlt xe
                  generalize takeR sd n4 = rt at *
                  obtain ⟨nm, se⟩ := rt
                  simp only at *
                  go_wp2_with fail
                  refine htk.mono ?_
                  rintro e w9 ⟨vb, rfl, hs9, hr9, hg9⟩
                  simp only at hs9 hr9
                  obtain ⟨Ab, cb, rfl, _⟩ := hs9.form
                  have hstr := sl_string Try.underlying26 Try.underlying5 Try.underlying9 hs9
                  have hX9 := hX8.read hg9 hr9
                  clear htk hX8 hr9 hg9 hs9
                  go_wp2_with fail
                  have hX10 := hX9.alloc (.cells #[.string ⟨nm.toArray⟩, .int .i64 0, .int .i64 0] 46)
                  have hY10 := Blk.new w9 46 #[.string ⟨nm.toArray⟩, .int .i64 0, .int .i64 0]
                  have hYne := own_ne_new hX9.own (Nat.le_refl _)
                  have hXY : X < w9.heap.size := hX9.x.lt
                  clear hX9 hstr
                  generalize w9.heap.size = Y at *
                  generalize w9.alloc (.cells #[.string ⟨nm.toArray⟩, .int .i64 0, .int .i64 0] 46) = w10 at *
                  have hwX := hX10.lt
                  have hwY := hX10.sz
                  have hYg : some Y ≠ some (w.heap.size + 1) := by simp; omega
                  have hnum := num31 w.heap.size (w.heap.size + 1) 4 se w10 hX10.r hlk2 (by omega)
                  have hlk3 := Nat.le_trans (fourR_left se) hlk2
                  obtain ⟨z, hz, hzl⟩ := numR_nat 4 se
                  rw [show (256 : Nat) ^ 4 = 4294967296 from rfl] at hzl
                  rw [fourR_sign se] at HRG hlk3
                  unfold NumPost at hnum
                  rw [hz] at HRG hnum hlk3
                  generalize (numR 4 se).2 = sf at *
                  simp only at HRG hlk3
                  clear hz hlk2
                  refine hnum.mono ?_
                  rintro e w11 ⟨rfl, hr11, hg11⟩
                  have hX11 := hX10.read hg11 hr11
                  have hY11 := hY10.grown hg11 hYg
                  clear hnum hX10 hY10 hr11 hg11
                  go_wp2_with fail
                  refine (sign33 z _ (by omega) (by omega)).mono ?_
                  rintro e w' ⟨rfl, hw'⟩
                  subst hw'
                  generalize signZ (z : Int) = lo at *
                  have y1 := hY11.frozen 1
                  have y2 : w11.cell? ⟨Y, 1, none⟩ = some (.int .i64 0) := (hY11.cell 1).trans rfl
                  go_wp2_with fail
                  have hX12 := hX11.far (j := 1) (u := .int .i64 lo) hXY hYne
                  have hY12 := hY11.set_ 1 (.int .i64 lo)
                  simp only [List.setIfInBounds_toArray, List.set_cons_zero, List.set_cons_succ] at hY12
                  clear hX11 hY11 y1 y2
                  generalize w11.setCell ⟨Y, 1, none⟩ (.int .i64 lo) = w12 at *
                  have hnum := num31 w.heap.size (w.heap.size + 1) 4 sf w12 hX12.r hlk3 (by omega)
                  obtain ⟨z, hz, hzl⟩ := numR_nat 4 sf
                  rw [show (256 : Nat) ^ 4 = 4294967296 from rfl] at hzl
                  rw [fourR_sign sf] at HRG
                  unfold NumPost at hnum
                  rw [hz] at HRG hnum
                  generalize (numR 4 sf).2 = sg at *
                  simp only at HRG
                  clear hz hlk3
                  refine hnum.mono ?_
                  rintro e w13 ⟨rfl, hr13, hg13⟩
                  have hX13 := hX12.read hg13 hr13
                  have hY13 := hY12.grown hg13 hYg
                  clear hnum hX12 hY12 hr13 hg13
                  go_wp2_with fail
                  refine (sign33 z _ (by omega) (by omega)).mono ?_
                  rintro e w' ⟨rfl, hw'⟩
                  subst hw'
                  generalize signZ (z : Int) = hi at *
                  have y1 := hY13.frozen 2
                  have y2 : w13.cell? ⟨Y, 2, none⟩ = some (.int .i64 0) := (hY13.cell 2).trans rfl
                  have hX14 := hX13.far (j := 2) (u := .int .i64 hi) hXY hYne
                  have hY14 := hY13.set_ 2 (.int .i64 hi)
                  simp only [List.setIfInBounds_toArray, List.set_cons_zero, List.set_cons_succ] at hY14
                  obtain ⟨x0, x1, x2, xf1, xf2, xlt, xe⟩ := hX14.cells
                  have y3 : (w13.setCell ⟨Y, 2, none⟩ (.int .i64 hi)).cell? ⟨Y, 0, none⟩ = some (.string ⟨nm.toArray⟩) := (hY14.cell 0).trans rfl
                  have y4 : (w13.setCell ⟨Y, 2, none⟩ (.int .i64 hi)).cell? ⟨Y, 1, none⟩ = some (.int .i64 lo) := (hY14.cell 1).trans rfl
                  have y5 : (w13.setCell ⟨Y, 2, none⟩ (.int .i64 hi)).cell? ⟨Y, 2, none⟩ = some (.int .i64 hi) := (hY14.cell 2).trans rfl
                  clear hX13 hY13
                  have HN : Aside ((zs ++ [rg.1]).length = q + 1) := ⟨by rw [List.length_append, hzq]; rfl⟩
                  have HL4 : Aside (loopR rangeR n3 sc = ((zs ++ [rg.1]) ++ (loopR rangeR (n3 - (q + 1)) rg.2).1, (loopR rangeR (n3 - (q + 1)) rg.2).2)) := ⟨by rw [HL3.out]; simp⟩
                  have HRG2 : Aside (rg = (⟨⟨nm.toArray⟩, lo, hi⟩, sg)) := ⟨HRG.out.symm⟩
                  have HZQ := Aside.mk hzq
                  clear HRG HL3 hzq
                  have hBN : Blk ((w13.setCell ⟨Y, 2, none⟩ (.int .i64 hi)).alloc (.cells #[.string ⟨nm.toArray⟩, .int .i64 lo, .int .i64 hi] 46)) w13.heap.size 46 #[.string ⟨nm.toArray⟩, .int .i64 lo, .int .i64 hi] := by
                    have := Blk.new (w13.setCell ⟨Y, 2, none⟩ (.int .i64 hi)) 46 #[.string ⟨nm.toArray⟩, .int .i64 lo, .int .i64 hi]
                    rwa [show (w13.setCell ⟨Y, 2, none⟩ (.int .i64 hi)).heap.size = w13.heap.size by simp [World.setCell]] at this
                  go_wp2_with (at_builtin; go_loud (refine app_lit rfl _ _ 37 rfl 46 _ 3 32 Try.underlying37 Try.info46 rfl (by decide) (by decide) (X + 1) v3 zs.length _ rfl (hX14.own.alloc _) w13.heap.size 1 1 #[.string ⟨nm.toArray⟩, .int .i64 lo, .int .i64 hi] rfl hBN rfl (by simp [Value.oneCell']) (by decide) (by have := HZQ.out; omega) (by have := xlt; simp at this ⊢; omega) ?_; intro gg cap w15 hown15 hgr15 hat hlt15; have hX15 := hX14.push (x := ⟨⟨nm.toArray⟩, lo, hi⟩) hown15 rfl hgr15; have f15 : w15.frozen? ⟨X, 2, none⟩ = false := Blk.frozen ((hX14.x.alloc (.cells #[.string ⟨nm.toArray⟩, .int .i64 lo, .int .i64 hi] 46)).grown hgr15 (own_blk_ne (hX14.own.alloc (.cells #[.string ⟨nm.toArray⟩, .int .i64 lo, .int .i64 hi] 46)) (hX14.x.alloc (.cells #[.string ⟨nm.toArray⟩, .int .i64 lo, .int .i64 hi] 46)) (by decide))) 2; have d15 : w15.cell? ⟨X, 2, none⟩ = some v3 := (Blk.cell ((hX14.x.alloc (.cells #[.string ⟨nm.toArray⟩, .int .i64 lo, .int .i64 hi] 46)).grown hgr15 (own_blk_ne (hX14.own.alloc (.cells #[.string ⟨nm.toArray⟩, .int .i64 lo, .int .i64 hi] 46)) (hX14.x.alloc (.cells #[.string ⟨nm.toArray⟩, .int .i64 lo, .int .i64 hi] 46)) (by decide))) 2).trans rfl))
                  clear hBN hX14 hY14 hown15 hgr15 hat hlt15 f15 d15 x0 x1 x2 xf1 xf2 xlt xe y1 y2 y3 y4 y5
                  generalize w15.setCell ⟨X, 2, none⟩ (.slice (some ⟨gg, 0, none⟩) (zs.length + 1) cap) = w16 at *
                  go_roundw
                  case rel => exact ⟨q + 1, sg, zs ++ [⟨⟨nm.toArray⟩, lo, hi⟩], _, by go_num, by omega, by rw [HRG2.out] at HN; exact HN.out, by have := HLR.out; rw [HRG2.out] at this; exact this, by rw [HRG2.out] at HL4; exact HL4, hX15⟩
                  case measure => simp [intOf]; omega
                · have HF3 : Aside (r0 = (⟨sid, from_, zs⟩, st3)) := ⟨by
                    have e : loopR rangeR n3 sc = (zs, st3) := by
                      rw [HE3.out]
                      by_cases hq3 : q < n3
                      · rw [show n3 - q = (n3 - q - 1) + 1 by omega, loopR, if_neg (fun h => hgo ⟨hq3, h⟩)]; simp
                      · rw [show n3 - q = 0 by omega]; simp [loopR]
                    rw [← HR0.out, e]⟩
                  have hD := hI.read hX.g hX.r
                  obtain ⟨c0, c1, f0, f1, hlt2⟩ := hD.cells
                  obtain ⟨A3, cp3, rfl, _⟩ := own_slice hX.own
                  have hsz := hX.sz
                  have hlX := hX.lt
                  have hu3 := own_less hX.own (show w.heap.size + 3 ≤ X + 1 by omega)
                  have HYK := Aside.mk hyk
                  have HL4 : Aside (loopR subR n2 s2 = ((ys ++ [((⟨sid, from_, zs⟩ : FSub), Value.slice A3 zs.length cp3)]).map Prod.fst ++ (loopR subR (n2 - (k + 1)) st3).1, (loopR subR (n2 - (k + 1)) st3).2)) := ⟨by rw [HL.out, HF3.out]; simp⟩
                  have hcase : ¬ q < n3 ∨ (q < n3 ∧ (st3.2 == 0) = false) := by
                    by_cases hq3 : q < n3
                    · exact .inr ⟨hq3, by simpa using fun h => hgo ⟨hq3, h⟩⟩
                    · exact .inl hq3
                  clear HE3 HL HF3 hgo hyk hX hI hzq
                  rcases hcase with hq3 | ⟨hq3, he3⟩
                  all_goals
                    go_wp2_with (at_builtin; go_loud (refine app_lit rfl _ _ 23 rfl 40 _ 3 40 Try.underlying23 Try.info40 rfl (by decide) (by decide) (w.heap.size + 3) vS ys.length _ rfl (hD.s.alloc _).1 wr.heap.size 1 1 #[.int .i64 sid, .int .i64 from_, .slice A3 zs.length cp3] rfl (Blk.new _ _ _) rfl (by simp [Value.oneCell']) (by decide) (by have := HYK.out; omega) (by simp; omega) ?_; intro gg cap w16 hown16 hgr16 hat hlt16; have hI6 := hD.pushS (x := ⟨sid, from_, zs⟩) hu3 hown16 rfl rfl hgr16; have hf16 := (hD.f.alloc (.cells #[.int .i64 sid, .int .i64 from_, .slice A3 zs.length cp3] 40)).grown hgr16 (own_blk_ne (hD.s.alloc (.cells #[.int .i64 sid, .int .i64 from_, .slice A3 zs.length cp3] 40)).1 (hD.f.alloc (.cells #[.int .i64 sid, .int .i64 from_, .slice A3 zs.length cp3] 40)) (by decide)); have f16 := hf16.frozen 1; have d16 : w16.cell? ⟨w.heap.size + 2, 1, none⟩ = some vS := (hf16.cell 1).trans rfl))
                    have HN : Aside ((ys ++ [((⟨sid, from_, zs⟩ : FSub), Value.slice A3 zs.length cp3)]).length = k + 1) := ⟨by rw [List.length_append, HYK.out]; rfl⟩
                    clear hD hu3 hown16 hgr16 hat hlt16 hf16 f16 d16 c0 c1 f0 f1 x0 x1 x2 xf1 xf2 xlt xe ce HYK
                    go_roundw
                    case rel => exact ⟨k + 1, st3, _, _, by go_num, by omega, HN.out, hl3, HL4, hI6⟩
                    case measure => simp [intOf]; omega
            · have HF : Aside (loopR subR n2 s2 = (ys.map Prod.fst, st)) := ⟨by
                rw [HE.out, show n2 - k = (n2 - k - 1) + 1 by omega, loopR, if_neg he0]; simp⟩
              have he0b : (st.2 == 0) = false := by simpa using he0
              clear he0
              have HRD : Aside (R = decD xs (ys.map Prod.fst, st)) := ⟨by rw [HX.out, HF.out]⟩
              have hend := end34 w.heap.size (w.heap.size + 1) st wo hI.r hlst
              have hz0 : wo.cell? ⟨w.heap.size, 0, none⟩ = some (.slice none 0 0) := (hI.z.cell 0).trans rfl
              have hz1 : wo.cell? ⟨w.heap.size, 1, none⟩ = some (.slice none 0 0) := (hI.z.cell 1).trans rfl
              have hzf0 := hI.z.frozen 0
              have hzf1 := hI.z.frozen 1
              have hlt0 : w.heap.size < wo.heap.size := hI.z.lt
              have hyl : ys.length ≤ 64 := by omega
              have hxl : xs.length ≤ 16 := by omega
              have hrt := right16 _ _ ⟨xs, ys.map Prod.fst⟩ wo (own_rdI hI.l) hI.s.rd (by simp only; unfold maxLen; omega) (by simp only [List.length_map]; unfold maxLen; omega) (fun s hs => by
                obtain ⟨p, hp, rfl⟩ := List.mem_map.1 hs
                exact own_len (hI.s.2 p hp))
              unfold decD at HRD
              clear hyk hxk
              generalize endR st = er at *
              obtain ⟨AL, cL, rfl, _⟩ := own_slice hI.l
              obtain ⟨AS, cS, rfl, _⟩ := own_slice hI.s.1
              clear HX HF HE
              go_wp2_with fail
              refine hend.mono ?_
              rintro e w' ⟨rfl, hw'⟩
              subst hw'
              by_cases her : er = 0
              · subst her
                try simp only at hrt HRD
                generalize (First.right ⟨xs, ys.map Prod.fst⟩) = rt at *
                clear hend
                go_wp2_with fail
                refine hrt.mono ?_
                rintro e w17 ⟨rfl, hb⟩
                obtain ⟨hc, hf⟩ := bcell hb
                have g0 := (hc _ 0 hlt2).trans c0
                have g1 := (hc _ 1 hlt2).trans c1
                have k0 := (hc _ 0 hlt0).trans hz0
                have k1 := (hc _ 1 hlt0).trans hz1
                have kf0 := (hf _ 0 hlt0).trans hzf0
                have kf1 := (hf _ 1 hlt0).trans hzf1
                have hB := hI.b
                cases rt
                · have HG : Aside (R = (⟨[], []⟩, 3)) := ⟨by rw [HRD.out, if_neg (by simp)]; rfl⟩
                  clear HRD hrt hI hc hf
                  go_wp2
                  rw [HG.out]
                  refine bodyPost_ret (v := .tuple #[.agg #[.slice none 0 0, .slice none 0 0], .int .i64 3]) (by simp [results, Try.results13, go_sem, k0, k1, g0, g1]) rfl (DecPost.zero rfl ?_)
                  exact below_set (below_set (below_step hB hb) (Nat.le_refl _)) (Nat.le_refl _)
                · have HG : Aside (R = (⟨xs, ys.map Prod.fst⟩, 0)) := ⟨by rw [HRD.out, if_neg (by simp)]; rfl⟩
                  have hown3 := own_below hI.l hb
                  have hos3 := hI.s.below hb
                  clear HRD hrt hI hc hf
                  go_wp2
                  rw [HG.out]
                  refine bodyPost_ret (v := .tuple #[.agg #[.slice AL xs.length cL, .slice AS ys.length cS], .int .i64 0]) (by simp [results, Try.results13, go_sem, k0, k1, g0, g1]) rfl ?_
                  refine ⟨_, _, rfl, own_rdI (own_set (own_set hown3 (own_ne_lt hown3 (by omega)) _) (own_ne_lt hown3 (by omega)) _), ((hos3.set_ (by omega) _).set_ (by omega) _).rd, below_set (below_set (below_step hB hb) (Nat.le_refl _)) (Nat.le_refl _)⟩
              · have HG : Aside (R = (⟨[], []⟩, er)) := ⟨by rw [HRD.out, if_pos her]⟩
                have heb : (er != 0) = true := by simpa using her
                have hB := hI.b
                clear HRD hrt hI her hend
                go_wp2
                rw [HG.out]
                refine bodyPost_ret (v := .tuple #[.agg #[.slice none 0 0, .slice none 0 0], .int .i64 er]) (by simp [results, Try.results13, go_sem, hz0, hz1]) rfl (DecPost.zero rfl ?_)
                exact below_set (below_set hB (Nat.le_refl _)) (Nat.le_refl _)
          · have HF : Aside (loopR subR n2 s2 = (ys.map Prod.fst, st)) := ⟨by
              rw [HE.out, show n2 - k = 0 by omega]; simp [loopR]⟩
            have HRD : Aside (R = decD xs (ys.map Prod.fst, st)) := ⟨by rw [HX.out, HF.out]⟩
            have hend := end34 w.heap.size (w.heap.size + 1) st wo hI.r hlst
            have hz0 : wo.cell? ⟨w.heap.size, 0, none⟩ = some (.slice none 0 0) := (hI.z.cell 0).trans rfl
            have hz1 : wo.cell? ⟨w.heap.size, 1, none⟩ = some (.slice none 0 0) := (hI.z.cell 1).trans rfl
            have hzf0 := hI.z.frozen 0
            have hzf1 := hI.z.frozen 1
            have hlt0 : w.heap.size < wo.heap.size := hI.z.lt
            have hyl : ys.length ≤ 64 := by omega
            have hxl : xs.length ≤ 16 := by omega
            have hrt := right16 _ _ ⟨xs, ys.map Prod.fst⟩ wo (own_rdI hI.l) hI.s.rd (by simp only; unfold maxLen; omega) (by simp only [List.length_map]; unfold maxLen; omega) (fun s hs => by
              obtain ⟨p, hp, rfl⟩ := List.mem_map.1 hs
              exact own_len (hI.s.2 p hp))
            unfold decD at HRD
            clear hyk hxk
            generalize endR st = er at *
            obtain ⟨AL, cL, rfl, _⟩ := own_slice hI.l
            obtain ⟨AS, cS, rfl, _⟩ := own_slice hI.s.1
            clear HX HF HE
            go_wp2_with fail
            refine hend.mono ?_
            rintro e w' ⟨rfl, hw'⟩
            subst hw'
            by_cases her : er = 0
            · subst her
              try simp only at hrt HRD
              generalize (First.right ⟨xs, ys.map Prod.fst⟩) = rt at *
              clear hend
              go_wp2_with fail
              refine hrt.mono ?_
              rintro e w17 ⟨rfl, hb⟩
              obtain ⟨hc, hf⟩ := bcell hb
              have g0 := (hc _ 0 hlt2).trans c0
              have g1 := (hc _ 1 hlt2).trans c1
              have k0 := (hc _ 0 hlt0).trans hz0
              have k1 := (hc _ 1 hlt0).trans hz1
              have kf0 := (hf _ 0 hlt0).trans hzf0
              have kf1 := (hf _ 1 hlt0).trans hzf1
              have hB := hI.b
              cases rt
              · have HG : Aside (R = (⟨[], []⟩, 3)) := ⟨by rw [HRD.out, if_neg (by simp)]; rfl⟩
                clear HRD hrt hI hc hf
                go_wp2
                rw [HG.out]
                refine bodyPost_ret (v := .tuple #[.agg #[.slice none 0 0, .slice none 0 0], .int .i64 3]) (by simp [results, Try.results13, go_sem, k0, k1, g0, g1]) rfl (DecPost.zero rfl ?_)
                exact below_set (below_set (below_step hB hb) (Nat.le_refl _)) (Nat.le_refl _)
              · have HG : Aside (R = (⟨xs, ys.map Prod.fst⟩, 0)) := ⟨by rw [HRD.out, if_neg (by simp)]; rfl⟩
                have hown3 := own_below hI.l hb
                have hos3 := hI.s.below hb
                clear HRD hrt hI hc hf
                go_wp2
                rw [HG.out]
                refine bodyPost_ret (v := .tuple #[.agg #[.slice AL xs.length cL, .slice AS ys.length cS], .int .i64 0]) (by simp [results, Try.results13, go_sem, k0, k1, g0, g1]) rfl ?_
                refine ⟨_, _, rfl, own_rdI (own_set (own_set hown3 (own_ne_lt hown3 (by omega)) _) (own_ne_lt hown3 (by omega)) _), ((hos3.set_ (by omega) _).set_ (by omega) _).rd, below_set (below_set (below_step hB hb) (Nat.le_refl _)) (Nat.le_refl _)⟩
            · have HG : Aside (R = (⟨[], []⟩, er)) := ⟨by rw [HRD.out, if_pos her]⟩
              have heb : (er != 0) = true := by simpa using her
              have hB := hI.b
              clear HRD hrt hI her hend
              go_wp2
              rw [HG.out]
              refine bodyPost_ret (v := .tuple #[.agg #[.slice none 0 0, .slice none 0 0], .int .i64 er]) (by simp [results, Try.results13, go_sem, hz0, hz1]) rfl (DecPost.zero rfl ?_)
              exact below_set (below_set hB (Nat.le_refl _)) (Nat.le_refl _)

theorem decode13 (vb : Value) (bs : List UInt8) (w : World) (hb : enU8.Rd w vb bs) (hl : bs.length ≤ maxLen) :
    Calls Try.prog 13 #[vb] w (DecPost w (decodeF bs)) := by
  obtain ⟨R, hR⟩ : ∃ R, R = decodeF bs := ⟨_, rfl⟩
  rw [← hR]
  rw [head_decode] at hR
  obtain ⟨A, c, rfl, hlc⟩ := hb.form
  have hl' := hl
  unfold maxLen at hl
  by_cases he : headE bs 1 = 0
  · rw [if_neg (by simpa using he)] at hR
    have h4 : ¬ bs.length < 4 := by
      intro h
      rw [headE, if_pos h] at he
      cases he
    exact dec13_main A c bs.length bs w hb hl' hl hlc h4 he R ⟨hR⟩
  · rw [if_pos he] at hR
    have hB0 : Below w.heap.size w (w.alloc (.cells #[.slice none 0 0, .slice none 0 0] 25)) := (Below.refl _ _).alloc (Nat.le_refl _) _
    have hhead := head29 _ bs 1 _ (hb.below hB0) hl'
    generalize bs.length = n at *
    have HR := Aside.mk hR
    have heb : (headE bs 1 != 0) = true := by simpa using he
    clear hR he hb
    generalize headE bs 1 = er at *
    go_enter Try.func13, Try.ntmps13
    go_wp2_with fail
    refine hhead.mono ?_
    rintro e w' ⟨rfl, hw'⟩
    subst hw'
    go_wp2
    rw [HR.out]
    refine bodyPost_ret (v := .tuple #[.agg #[.slice none 0 0, .slice none 0 0], .int .i64 er]) (by simp [results, Try.results13, go_sem]) rfl (DecPost.zero rfl ?_)
    exact hB0
end Go.Proofs.Ytamaihlpdebekaa
