/- first: the reader: rangeOf, sub. -/
import Derived.Test.YtamaihlpdebekaaFG
namespace Go.Proofs.Ytamaihlpdebekaa
open Go.RowKit
set_option linter.unusedVariables false
set_option linter.unusedSimpArgs false

theorem takeR_left (s : RSt) (n : Nat) : (takeR s n).2.1.length ≤ s.1.length := by
  unfold takeR
  split <;> (try split) <;> simp
theorem countR_left (s : RSt) (m : Int) : (countR s m).2.1.length ≤ s.1.length := by
  have := takeR_left s 1
  unfold countR
  split <;> exact this
theorem countR_nat (s : RSt) (m : Nat) : ∃ n : Nat, (countR s m).1 = n ∧ n ≤ m := by
  unfold countR
  split
  · exact ⟨0, rfl, by omega⟩
  · exact ⟨headN (takeR s 1).1, rfl, by omega⟩
theorem fourR_left (s : RSt) : (fourR s).2.1.length ≤ s.1.length := takeR_left s 4
theorem twoR_left (s : RSt) : (twoR s).2.1.length ≤ s.1.length := takeR_left s 2

def rangeR (s : RSt) : Rng × RSt :=
  (⟨⟨(takeR (countR s 16).2 (countR s 16).1.toNat).1.toArray⟩, (fourR (takeR (countR s 16).2 (countR s 16).1.toNat).2).1, (fourR (fourR (takeR (countR s 16).2 (countR s 16).1.toNat).2).2).1⟩,
   (fourR (fourR (takeR (countR s 16).2 (countR s 16).1.toNat).2).2).2)
theorem rangeR_left (s : RSt) : (rangeR s).2.1.length ≤ s.1.length :=
  Nat.le_trans (fourR_left _) (Nat.le_trans (fourR_left _) (Nat.le_trans (takeR_left _ _) (countR_left _ _)))

def RngPost (w : World) (B g : Nat) (r : Rng × RSt) (e : Ending) (w' : World) : Prop :=
  e = .returned (.agg #[.string r.1.name, .int .i64 r.1.lo, .int .i64 r.1.hi]) ∧ RdrAt 58 w' B g r.2 ∧ w.grownBy w' (some g)

set_option maxHeartbeats 1000000 in
theorem range47 (B g : Nat) (s : RSt) (w : World) (h : RdrAt 58 w B g s) (hl : s.1.length ≤ maxLen) :
    Calls Try.prog 47 #[.pointer (some ⟨g, 0, none⟩)] w (RngPost w B g (rangeR s)) := by
  obtain ⟨R, hR⟩ : ∃ R, R = rangeR s := ⟨_, rfl⟩
  rw [← hR]
  have HR := Aside.mk hR
  unfold rangeR at HR
  clear hR
  have hgl := h.lt
  have hBg := h.le
  have hfar : B ≤ w.heap.size ∧ w.heap.size ≠ g := by omega
  have hne : w.heap.size ≠ g := by omega
  have h0 := h.alloc (.cells #[.string ⟨#[]⟩, .int .i64 0, .int .i64 0] 46)
  have hblk := Blk.new w 46 #[.string ⟨#[]⟩, .int .i64 0, .int .i64 0]
  have hgr := grown_alloc w (.cells #[.string ⟨#[]⟩, .int .i64 0, .int .i64 0] 46) (some g)
  have hc := count26 B g s 16 _ h0 hl
  have hl1 := Nat.le_trans (countR_left s 16) hl
  obtain ⟨n, hn, hn16⟩ := countR_nat s 16
  rw [show ((16 : Nat) : Int) = 16 from rfl] at hn
  unfold NumPost at hc
  rw [hn] at hc HR
  rw [Int.toNat_natCast] at HR
  generalize (countR s 16).2 = s1 at *
  clear hn h
  go_enter Try.func47, Try.ntmps47
  go_wp2_with fail
  refine hc.mono ?_
  rintro e w2 ⟨rfl, hr2, hg2⟩
  have ht := take46 B g n s1 w2 hr2 (by unfold maxLen; omega) hl1
  have hl2 := Nat.le_trans (takeR_left s1 n) hl1
  have hb2 := hblk.grown hg2 (by simpa using hne)
  have hgr2 := hgr.trans hg2
  generalize takeR s1 n = r2 at *
  clear hc h0 hblk hgr hr2
  go_wp2_with fail
  refine ht.mono ?_
  rintro e w3 ⟨v, rfl, hs3, hr3, hg3⟩
  obtain ⟨A, c, rfl, hlc⟩ := hs3.form
  have hb3 := hb2.grown hg3 (by simpa using hne)
  have hgr3 := hgr2.trans hg3
  have hstr := sl_string Try.underlying26 Try.underlying5 Try.underlying9 hs3
  obtain ⟨bs, s3⟩ := r2
  simp only at *
  have hc0 := hb3.cell 0
  have hf0 := hb3.frozen 0
  simp only [List.getElem?_toArray, List.getElem?_cons_zero, List.getElem?_cons_succ] at hc0
  generalize bs.length = m at *
  have hb4 := hb3.set_ 0 (.string ⟨bs.toArray⟩)
  have hr4 := hr3.far (b := w.heap.size) (j := 0) hfar (.string ⟨bs.toArray⟩)
  have hgr4 := grown_setFar hgr3 (b := w.heap.size) (j := 0) (Nat.le_refl _) (.string ⟨bs.toArray⟩)
  have hfour := four54 B g s3 _ hr4 hl2
  have hl3 := Nat.le_trans (fourR_left s3) hl2
  clear ht hb2 hgr2 hg2 hg3 hb3 hgr3 hr3 hs3 hr4
  generalize fourR s3 = r5 at *
  go_wp2_with fail
  refine hfour.mono ?_
  rintro e w5 ⟨rfl, hr5, hg5⟩
  have hb5 := hb4.grown hg5 (by simpa using hne)
  have hgr5 := hgr4.trans hg5
  obtain ⟨lo, s5⟩ := r5
  simp only at *
  have hc1 := hb5.cell 1
  have hf1 := hb5.frozen 1
  simp only [List.setIfInBounds_toArray, List.set_cons_zero, List.getElem?_toArray, List.getElem?_cons_zero, List.getElem?_cons_succ] at hc1
  have hb6 := hb5.set_ 1 (.int .i64 lo)
  have hr6 := hr5.far (b := w.heap.size) (j := 1) hfar (.int .i64 lo)
  have hgr6 := grown_setFar hgr5 (b := w.heap.size) (j := 1) (Nat.le_refl _) (.int .i64 lo)
  have hfour2 := four54 B g s5 _ hr6 hl3
  clear hfour hb4 hgr4 hg5 hb5 hgr5 hr5 hr6 hc0 hf0 hstr
  generalize fourR s5 = r7 at *
  go_wp2_with fail
  refine hfour2.mono ?_
  rintro e w7 ⟨rfl, hr7, hg7⟩
  have hb7 := hb6.grown hg7 (by simpa using hne)
  have hgr7 := hgr6.trans hg7
  obtain ⟨hi, s7⟩ := r7
  simp only at *
  have hc0 := hb7.cell 0
  have hf0 := hb7.frozen 0
  have hc1 := hb7.cell 1
  have hf1 := hb7.frozen 1
  have hc2 := hb7.cell 2
  have hf2 := hb7.frozen 2
  simp only [List.setIfInBounds_toArray, List.set_cons_zero, List.set_cons_succ, List.getElem?_toArray, List.getElem?_cons_zero, List.getElem?_cons_succ] at hc0 hc1 hc2
  clear hfour2 hb6 hgr6 hg7
  go_wp2
  refine bodyPost_ret (v := .agg #[.string ⟨bs.toArray⟩, .int .i64 lo, .int .i64 hi]) (by simp [results, Try.results47, go_sem, hc0, hc1, hc2]) rfl ?_
  rw [HR.out]
  exact ⟨rfl, (((hr7.far hfar _).far hfar _).far hfar _).far hfar _, grown_setFar (grown_setFar (grown_setFar (grown_setFar hgr7 (Nat.le_refl _) _) (Nat.le_refl _) _) (Nat.le_refl _) _) (Nat.le_refl _) _⟩

/-- A loop that reads so many things. -/
def loopR {T : Type} (f : RSt → T × RSt) : Nat → RSt → List T × RSt
  | 0, s => ([], s)
  | n + 1, s => if s.2 = 0 then ((f s).1 :: (loopR f n (f s).2).1, (loopR f n (f s).2).2) else ([], s)
theorem loopR_len {T : Type} (f : RSt → T × RSt) : ∀ n s, (loopR f n s).1.length ≤ n
  | 0, s => by simp [loopR]
  | n + 1, s => by
    unfold loopR
    split
    · have := loopR_len f n (f s).2
      simp only [List.length_cons]
      omega
    · simp
theorem loopR_left {T : Type} (f : RSt → T × RSt) (hf : ∀ s, (f s).2.1.length ≤ s.1.length) : ∀ n s, (loopR f n s).2.1.length ≤ s.1.length
  | 0, s => by simp [loopR]
  | n + 1, s => by
    unfold loopR
    split
    · exact Nat.le_trans (loopR_left f hf n (f s).2) (hf s)
    · simp

def subR (s : RSt) : FSub × RSt :=
  (⟨(twoR s).1, (twoR (twoR s).2).1, (loopR rangeR (countR (twoR (twoR s).2).2 12).1.toNat (countR (twoR (twoR s).2).2 12).2).1⟩,
   (loopR rangeR (countR (twoR (twoR s).2).2 12).1.toNat (countR (twoR (twoR s).2).2 12).2).2)

def SubPost (w : World) (B g : Nat) (r : FSub × RSt) (e : Ending) (w' : World) : Prop :=
  ∃ v, e = .returned (.agg #[.int .i64 r.1.id, .int .i64 r.1.from_, v]) ∧ w'.ownsRow w.heap.size 46 3 v r.1.ranges.length (r.1.ranges.flatMap Rng.cells) ∧ RdrAt 58 w' B g r.2 ∧ w.grownBy w' (some g)

theorem Try.info46 : (Try.prog.info? 46).map (fun i => (i.zero, i.size, i.bytes)) = some (some (.agg #[.string ⟨#[]⟩, .int .i64 0, .int .i64 0]), 3, 32) := by kernel_rfl

set_option maxHeartbeats 1000000 in
theorem sub28 (B g : Nat) (s : RSt) (w : World) (h : RdrAt 58 w B g s) (hl : s.1.length ≤ maxLen) :
    Calls Try.prog 28 #[.pointer (some ⟨g, 0, none⟩)] w (SubPost w B g (subR s)) := by
  obtain ⟨R, hR⟩ : ∃ R, R = subR s := ⟨_, rfl⟩
  rw [← hR]
  have HR := Aside.mk hR
  unfold subR at HR
  clear hR
  have hgl := h.lt
  have hBg := h.le
  have hfar : B ≤ w.heap.size ∧ w.heap.size ≠ g := by omega
  have hne : w.heap.size ≠ g := by omega
  have h0 := h.alloc (.cells #[.int .i64 0, .int .i64 0, .slice none 0 0] 40)
  have hblk := Blk.new w 40 #[.int .i64 0, .int .i64 0, .slice none 0 0]
  have hgr := grown_alloc w (.cells #[.int .i64 0, .int .i64 0, .slice none 0 0] 40) (some g)
  have hc := two27 B g s _ h0 hl
  have hl1 := Nat.le_trans (twoR_left s) hl
  generalize twoR s = r1 at *
  obtain ⟨sid, s1⟩ := r1
  simp only at *
  clear h
  go_enter Try.func28, Try.ntmps28
  go_wp2_with fail
  refine hc.mono ?_
  rintro e w2 ⟨rfl, hr2, hg2⟩
  have hb2 := hblk.grown hg2 (by simpa using hne)
  have hgr2 := hgr.trans hg2
  simp only at *
  have hc0 := hb2.cell 0
  have hf0 := hb2.frozen 0
  simp only [List.getElem?_toArray, List.getElem?_cons_zero, List.getElem?_cons_succ] at hc0
  have hb3 := hb2.set_ 0 (.int .i64 sid)
  have hr3 := hr2.far (b := w.heap.size) (j := 0) hfar (.int .i64 sid)
  have hgr3 := grown_setFar hgr2 (b := w.heap.size) (j := 0) (Nat.le_refl _) (.int .i64 sid)
  have htwo := two27 B g s1 _ hr3 hl1
  have hl2 := Nat.le_trans (twoR_left s1) hl1
  clear hc h0 hblk hgr hg2 hb2 hgr2 hr2 hr3
  generalize twoR s1 = r4 at *
  obtain ⟨from_, s4⟩ := r4
  simp only at *
  go_wp2_with fail
  refine htwo.mono ?_
  rintro e w4 ⟨rfl, hr4, hg4⟩
  have hb4 := hb3.grown hg4 (by simpa using hne)
  have hgr4 := hgr3.trans hg4
  simp only at *
  have hc1 := hb4.cell 1
  have hf1 := hb4.frozen 1
  simp only [List.setIfInBounds_toArray, List.set_cons_zero, List.getElem?_toArray, List.getElem?_cons_zero, List.getElem?_cons_succ] at hc1
  have hb5 := hb4.set_ 1 (.int .i64 from_)
  have hr5 := hr4.far (b := w.heap.size) (j := 1) hfar (.int .i64 from_)
  have hgr5 := grown_setFar hgr4 (b := w.heap.size) (j := 1) (Nat.le_refl _) (.int .i64 from_)
  have hcnt := count26 B g s4 12 _ hr5 hl2
  have hl3 := Nat.le_trans (countR_left s4 12) hl2
  obtain ⟨n, hn, hn12⟩ := countR_nat s4 12
  rw [show ((12 : Nat) : Int) = 12 from rfl] at hn
  unfold NumPost at hcnt
  rw [hn] at hcnt HR
  rw [Int.toNat_natCast] at HR
  clear htwo hb3 hgr3 hg4 hb4 hgr4 hr4 hr5 hc0 hf0 hn
  generalize (countR s4 12).2 = s6 at *
  go_wp2_with fail
  refine hcnt.mono ?_
  rintro e w6 ⟨rfl, hr6, hg6⟩
  have hb6 := hb5.grown hg6 (by simpa using hne)
  have hgr6 := hgr5.trans hg6
  simp only [List.setIfInBounds_toArray, List.set_cons_zero, List.set_cons_succ] at hb6
  clear hcnt hb5 hgr5 hg6 hc1 hf1
  go_wp2
  go_loopw [3] (fun j wr => ∃ k : Nat, ∃ st : RSt, ∃ xs : List Rng, ∃ v : Value, j = .int .i64 k ∧ k ≤ 12 ∧ xs.length + k ≤ 12 ∧ st.1.length ≤ maxLen ∧
      Aside (loopR rangeR n s6 = (xs ++ (loopR rangeR k st).1, (loopR rangeR k st).2)) ∧ Blk wr w.heap.size 40 #[.int .i64 sid, .int .i64 from_, v] ∧ wr.ownsRow w.heap.size 46 3 v xs.length (xs.flatMap Rng.cells) ∧ RdrAt 58 wr B g st ∧ w.grownBy wr (some g)) (fun j wr => (intOf j).toNat)
  case atStart => exact ⟨n, s6, [], _, rfl, hn12, by simpa using hn12, hl3, ⟨by simp⟩, hb6, World.ownsRow_nil _ _ _ _, hr6, hgr6⟩
  case round =>
    clear hb6 hr6 hgr6
    obtain ⟨k, st, xs, v, rfl, hk, hxk, hlst, HE, hb, hown, hr, hgr⟩ := hrel
    have hr0 := Aside.mk hr
    obtain ⟨vr, hbr, hsr, _⟩ := id hr
    have hc1 := hbr.cell 1
    have hf1 := hbr.frozen 1
    have hd0 := hb.cell 0
    have hd1 := hb.cell 1
    have hd2 := hb.cell 2
    have hf0 := hb.frozen 0
    have hg1 := hb.frozen 1
    have hf2 := hb.frozen 2
    simp only [List.getElem?_toArray, List.getElem?_cons_zero, List.getElem?_cons_succ] at hc1 hd0 hd1 hd2
    by_cases hk0 : k = 0
    · subst hk0
      have HF : Aside (R = (⟨sid, from_, xs⟩, st)) := ⟨by rw [HR.out, HE.out]; simp [loopR]⟩
      obtain ⟨Av, cv, rfl, hcv⟩ := own_slice hown
      clear HR HE hr hbr hsr hc1 hf1
      go_wp2
      refine bodyPost_ret (v := .agg #[.int .i64 sid, .int .i64 from_, .slice Av xs.length cv]) (by simp [results, Try.results28, go_sem, hd0, hd1, hd2]) rfl ?_
      rw [HF.out]
      have hbn := own_blk_ne hown hb (by decide)
      exact ⟨_, rfl, own_set (own_set (own_set hown hbn _) hbn _) hbn _, (((RdrAt.far · hfar _) ((RdrAt.far · hfar _) ((RdrAt.far · hfar _) hr0.out)))), grown_setFar (grown_setFar (grown_setFar hgr (Nat.le_refl _) _) (Nat.le_refl _) _) (Nat.le_refl _) _⟩
    · by_cases he0 : st.2 = 0
      · obtain ⟨k, rfl⟩ : ∃ m, k = m + 1 := ⟨k - 1, by omega⟩
        have HL : Aside (loopR rangeR n s6 = (xs ++ ((rangeR st).1 :: (loopR rangeR k (rangeR st).2).1), (loopR rangeR k (rangeR st).2).2)) := ⟨by rw [HE.out, loopR, if_pos he0]⟩
        have hrng := fun W h => range47 B g st W h hlst
        have hl4 := Nat.le_trans (rangeR_left st) hlst
        rw [he0] at hc1
        clear HE he0 hbr hsr hk0
        generalize rangeR st = r5 at *
        obtain ⟨r5, s5⟩ := r5
        simp only at *
        go_wp2
        go_region_law (first | (refine step_app_lit rfl _ _ 37 rfl 46 _ 3 32 Try.underlying37 Try.info46 rfl (by decide) (by decide) w.heap.size v xs.length _ (by rfl) ((own_grown (w := wr.drew) hown hg5 hgl).alloc _) w5.heap.size 1 1 #[.string r5.name, .int .i64 r5.lo, .int .i64 r5.hi] (by rfl) (Blk.new _ _ _) rfl (by simp [Value.oneCell']) (by decide) (by omega) (by have h1 := hgr.size; have h2 : wr.heap.size ≤ w5.heap.size := hg5.size; simp; omega) ?_; intro gg cap w6 hown6 hgr6 hat hlt6; have hb6 := Blk.grown (hb5.alloc (.cells #[.string r5.name, .int .i64 r5.lo, .int .i64 r5.hi] 46)) hgr6 (own_blk_ne ((own_grown (w := wr.drew) hown hg5 hgl).alloc (.cells #[.string r5.name, .int .i64 r5.lo, .int .i64 r5.hi] 46)) (hb5.alloc (.cells #[.string r5.name, .int .i64 r5.lo, .int .i64 r5.hi] 46)) (by decide)); have hd6 := hb6.cell 2; have hf6 := hb6.frozen 2; simp only [List.getElem?_toArray, List.getElem?_cons_zero, List.getElem?_cons_succ] at hd6) | (go_simp; go_at_call 47; refine (hrng wr.drew hr).mono ?_; rintro e w5 ⟨rfl, hr5, hg5⟩; have hb5 := Blk.grown (w := wr.drew) hb hg5 (by simpa using hne); have hsz5 := hb5.lt; have hd5 := hb5.cell 2; simp only [List.getElem?_toArray, List.getElem?_cons_zero, List.getElem?_cons_succ] at hd5; dsimp only))
        all_goals
          have hbn6 := own_blk_ne hown6 hb6 (by decide)
          have hr6 := (((hr5.alloc (.cells #[.string r5.name, .int .i64 r5.lo, .int .i64 r5.hi] 46)).keep hgr6 (fun k hk => by have := own_bound hown k hk; omega)).far (b := w.heap.size) (j := 2) hfar (.slice (some ⟨gg, 0, none⟩) (xs.length + 1) cap))
          have hG := grown_setFar (grown_on (grown_allocOn (hgr.trans (grown_undrew hg5)) (.cells #[.string r5.name, .int .i64 r5.lo, .int .i64 r5.hi] 46)) hgr6 (fun k hk => .inr (own_bound hown k hk))) (b := w.heap.size) (j := 2) (Nat.le_refl _) (.slice (some ⟨gg, 0, none⟩) (xs.length + 1) cap)
          have hown7 := own_set (j := 2) hown6 hbn6 (.slice (some ⟨gg, 0, none⟩) (xs.length + 1) cap)
          have hb7 := hb6.set_ 2 (.slice (some ⟨gg, 0, none⟩) (xs.length + 1) cap)
          simp only [List.setIfInBounds_toArray, List.set_cons_zero, List.set_cons_succ] at hb7
          have hlen : (xs ++ [r5]).length = xs.length + 1 := by simp
          have HL2 : Aside (loopR rangeR n s6 = ((xs ++ [r5]) ++ (loopR rangeR k s5).1, (loopR rangeR k s5).2)) := ⟨by rw [HL.out]; simp⟩
          have HN := Aside.mk hlen
          clear hlen HL hb hown hr hgr hr0 hr5 hg5 hb5 hgr6 hown6 hb6
          go_wp2
          go_roundw
          case rel => exact ⟨k, s5, xs ++ [r5], _, by first | rfl | go_num, by omega, by rw [HN.out]; omega, hl4, HL2, hb7, by rw [HN.out, List.flatMap_append]; exact hown7, hr6, hG⟩
          case measure => simp [intOf] <;> omega
      · have HF : Aside (R = (⟨sid, from_, xs⟩, st)) := ⟨by
          obtain ⟨k', rfl⟩ : ∃ m, k = m + 1 := ⟨k - 1, by omega⟩
          rw [HR.out, HE.out, loopR, if_neg he0]; simp⟩
        have he0b : (st.2 == 0) = false := by simpa using he0
        have hk0' : 0 < k := by omega
        obtain ⟨Av, cv, rfl, hcv⟩ := own_slice hown
        clear HR HE hr hbr hsr he0 hk0
        go_wp2
        refine bodyPost_ret (v := .agg #[.int .i64 sid, .int .i64 from_, .slice Av xs.length cv]) (by simp [results, Try.results28, go_sem, hd0, hd1, hd2]) rfl ?_
        rw [HF.out]
        have hbn := own_blk_ne hown hb (by decide)
        exact ⟨_, rfl, own_set (own_set (own_set hown hbn _) hbn _) hbn _, (((RdrAt.far · hfar _) ((RdrAt.far · hfar _) ((RdrAt.far · hfar _) hr0.out)))), grown_setFar (grown_setFar (grown_setFar hgr (Nat.le_refl _) _) (Nat.le_refl _) _) (Nat.le_refl _) _⟩
end Go.Proofs.Ytamaihlpdebekaa
