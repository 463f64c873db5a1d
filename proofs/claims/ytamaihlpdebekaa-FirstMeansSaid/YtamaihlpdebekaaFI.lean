/- first: Decode. -/
import Derived.Test.YtamaihlpdebekaaFH
namespace Go.Proofs.Ytamaihlpdebekaa
open Go.RowKit
set_option linter.unusedVariables false
set_option linter.unusedSimpArgs false

/-- Subscriptions in memory of the call's own. -/
def OwnSubs (w : World) (base : Nat) (v : Value) (ys : List (FSub × Value)) : Prop :=
  w.ownsRow base 40 3 v ys.length (ys.flatMap fun p => [.int .i64 p.1.id, .int .i64 p.1.from_, p.2]) ∧ ∀ p ∈ ys, w.ownsRow base 46 3 p.2 p.1.ranges.length (p.1.ranges.flatMap Rng.cells)

theorem OwnSubs.grown {w w' : World} {base g : Nat} {v : Value} {ys : List (FSub × Value)} (h : OwnSubs w base v ys) (hg : w.grownBy w' (some g)) (hlt : g < base) : OwnSubs w' base v ys :=
  ⟨own_grown h.1 hg hlt, fun p hp => own_grown (h.2 p hp) hg hlt⟩
theorem OwnSubs.set_ {w : World} {base b j : Nat} {v : Value} {ys : List (FSub × Value)} (h : OwnSubs w base v ys) (hlt : b < base) (u : Value) : OwnSubs (w.setCell ⟨b, j, none⟩ u) base v ys :=
  ⟨own_set h.1 (own_ne_lt h.1 hlt) u, fun p hp => own_set (h.2 p hp) (own_ne_lt (h.2 p hp) hlt) u⟩
theorem OwnSubs.alloc {w : World} {base : Nat} {v : Value} {ys : List (FSub × Value)} (h : OwnSubs w base v ys) (o : Obj) : OwnSubs (w.alloc o) base v ys :=
  ⟨h.1.alloc o, fun p hp => (h.2 p hp).alloc o⟩
theorem OwnSubs.nil (w : World) (base : Nat) : OwnSubs w base (.slice none 0 0) [] := ⟨World.ownsRow_nil _ _ _ _, fun p hp => by cases hp⟩
/-- One more. -/
theorem OwnSubs.snoc {w w' : World} {base : Nat} {v v' : Value} {ys : List (FSub × Value)} {s : FSub} {u : Value} {n : Nat} {cs : List Value} (h : OwnSubs w base v ys) (hu : w.ownsRow base 46 3 u s.ranges.length (s.ranges.flatMap Rng.cells))
    (hr : w'.ownsRow base 40 3 v' n (ys.flatMap (fun p => [.int .i64 p.1.id, .int .i64 p.1.from_, p.2]) ++ cs)) (hcs : cs = [.int .i64 s.id, .int .i64 s.from_, u]) (hn : n = ys.length + 1) (hg : w.grownBy w' v.ownBlock) : OwnSubs w' base v' (ys ++ [(s, u)]) := by
  subst hcs hn
  refine ⟨by rw [List.length_append, List.flatMap_append]; exact hr, fun p hp => ?_⟩
  rcases List.mem_append.1 hp with hp | hp
  · exact (h.2 p hp).kept hg (own_types (h.2 p hp) h.1 (by decide))
  · obtain rfl : p = (s, u) := by simpa using hp
    exact hu.kept hg (own_types hu h.1 (by decide))
theorem OwnSubs.rd {w : World} {base : Nat} {v : Value} {ys : List (FSub × Value)} (h : OwnSubs w base v ys) : enSub.Rd w v (ys.map Prod.fst) := by
  refine own_sl' (E := enSub) (by rw [List.length_map]; exact h.1) (own_lt h.1) (fun i x hi => ?_)
  rw [List.getElem?_map] at hi
  obtain ⟨p, hp, rfl⟩ : ∃ p, ys[i]? = some p ∧ p.1 = x := by
    cases hy : ys[i]? with
    | none => rw [hy] at hi; cases hi
    | some p => rw [hy] at hi; exact ⟨p, rfl, by simpa using hi⟩
  have hpm : p ∈ ys := List.mem_of_getElem? hp
  refine ⟨_, enSub_make (own_sl (f := Rng.cells) (hm := fun _ => rfl) (h.2 p hpm) (own_lt (h.2 p hpm))), fun j u hj => ?_⟩
  have hj3 : j < 3 := by
    rcases Nat.lt_or_ge j 3 with h | h
    · exact h
    · rw [List.getElem?_eq_none (by simpa using h)] at hj; cases hj
  rw [show enSub.sz = 3 from rfl, flatMap_get (m := 3) (fun _ => rfl) ys i p j hp hj3]
  exact hj

def decodeF (bs : List UInt8) : First × Int :=
  if bs.length < 4 then (⟨[], []⟩, 2)
  else if bs.take 3 ≠ [82, 83, 84] then (⟨[], []⟩, 3)
  else if bs.take 4 ≠ [82, 83, 84, 1] then (⟨[], []⟩, 11)
  else
    let c1 := countR (bs.drop 4, 0) 16
    let l := loopR twoR c1.1.toNat c1.2
    let c2 := countR l.2 64
    let m := loopR subR c2.1.toNat c2.2
    if m.2.2 ≠ 0 then (⟨[], []⟩, m.2.2)
    else if 0 < m.2.1.length then (⟨[], []⟩, 5)
    else if !(First.right ⟨l.1, m.1⟩) then (⟨[], []⟩, 3)
    else (⟨l.1, m.1⟩, 0)

def DecPost (w : World) (r : First × Int) (e : Ending) (w' : World) : Prop :=
  ∃ vL vS, e = .returned (.tuple #[.agg #[vL, vS], .int .i64 r.2]) ∧ enI64.Rd w' vL r.1.links ∧ enSub.Rd w' vS r.1.subs ∧ Below w.heap.size w w'

theorem DecPost.zero {w w' : World} {err : Int} {e : Ending} (he : e = .returned (.tuple #[.agg #[.slice none 0 0, .slice none 0 0], .int .i64 err])) (hB : Below w.heap.size w w') : DecPost w (⟨[], []⟩, err) e w' :=
  ⟨_, _, he, En.Rd.nil _ _ _ _, En.Rd.nil _ _ _ _, hB⟩

theorem Try.info40 : (Try.prog.info? 40).map (fun i => (i.zero, i.size, i.bytes)) = some (some (.agg #[.int .i64 0, .int .i64 0, .slice none 0 0]), 3, 40) := by kernel_rfl
theorem subR_left (s : RSt) : (subR s).2.1.length ≤ s.1.length :=
  Nat.le_trans (loopR_left rangeR rangeR_left _ _) (Nat.le_trans (countR_left _ _) (Nat.le_trans (twoR_left _) (twoR_left _)))
theorem own_rdI {w : World} {base : Nat} {v : Value} {xs : List Int} (h : w.ownsRow base 3 1 v xs.length (xs.map fun n => .int .i64 n)) : enI64.Rd w v xs :=
  own_sl (f := fun n => [.int .i64 n]) (m := 1) (hm := fun _ => rfl) (by rw [show xs.flatMap (fun n => [Value.int .i64 n]) = xs.map (fun n => .int .i64 n) from by rw [List.map_eq_flatMap]]; exact h) (own_lt h)

set_option maxHeartbeats 4000000 in
set_option maxRecDepth 100000 in
theorem decode12_main (A : Option Addr) (c n : Nat) (bs : List UInt8) (w : World) (hb : enU8.Rd w (.slice A n c) bs) (hl : bs.length ≤ maxLen) (hln : n ≤ 9223372036854775807) (hlc : n ≤ c) (h4 : ¬ n < 4)
    (b3 : (bs.take 3 == ((⟨#[82, 83, 84, 1]⟩ : ByteArray).extract 0 3).toList) = true) (b4 : (bs.take 4 == [82, 83, 84, 1]) = true) (R : First × Int)
    (HR : Aside (R = (
      if (loopR subR (countR (loopR twoR (countR (bs.drop 4, 0) 16).1.toNat (countR (bs.drop 4, 0) 16).2).2 64).1.toNat (countR (loopR twoR (countR (bs.drop 4, 0) 16).1.toNat (countR (bs.drop 4, 0) 16).2).2 64).2).2.2 ≠ 0 then
        (⟨[], []⟩, (loopR subR (countR (loopR twoR (countR (bs.drop 4, 0) 16).1.toNat (countR (bs.drop 4, 0) 16).2).2 64).1.toNat (countR (loopR twoR (countR (bs.drop 4, 0) 16).1.toNat (countR (bs.drop 4, 0) 16).2).2 64).2).2.2)
      else if 0 < (loopR subR (countR (loopR twoR (countR (bs.drop 4, 0) 16).1.toNat (countR (bs.drop 4, 0) 16).2).2 64).1.toNat (countR (loopR twoR (countR (bs.drop 4, 0) 16).1.toNat (countR (bs.drop 4, 0) 16).2).2 64).2).2.1.length then (⟨[], []⟩, 5)
      else if !(First.right ⟨(loopR twoR (countR (bs.drop 4, 0) 16).1.toNat (countR (bs.drop 4, 0) 16).2).1, (loopR subR (countR (loopR twoR (countR (bs.drop 4, 0) 16).1.toNat (countR (bs.drop 4, 0) 16).2).2 64).1.toNat (countR (loopR twoR (countR (bs.drop 4, 0) 16).1.toNat (countR (bs.drop 4, 0) 16).2).2 64).2).1⟩) then (⟨[], []⟩, 3)
      else (⟨(loopR twoR (countR (bs.drop 4, 0) 16).1.toNat (countR (bs.drop 4, 0) 16).2).1, (loopR subR (countR (loopR twoR (countR (bs.drop 4, 0) 16).1.toNat (countR (bs.drop 4, 0) 16).2).2 64).1.toNat (countR (loopR twoR (countR (bs.drop 4, 0) 16).1.toNat (countR (bs.drop 4, 0) 16).2).2 64).2).1⟩, 0)))) :
    Calls Try.prog 12 #[.slice A n c] w (DecPost w R) := by
  have hB0 : Below w.heap.size w (w.alloc (.cells #[.slice none 0 0, .slice none 0 0] 25)) := (Below.refl _ _).alloc (Nat.le_refl _) _
  have h1 := ((hb.below hB0).take 3 (by omega))
  have h2 := ((hb.below hB0).take 4 (by omega))
  have e1 := fun nq => sl_string (w := (w.alloc (.cells #[.slice none 0 0, .slice none 0 0] 25)).drewN nq) Try.underlying26 Try.underlying5 Try.underlying9 (h1.drewN nq)
  have e2 := fun nq => sl_string (w := (w.alloc (.cells #[.slice none 0 0, .slice none 0 0] 25)).drewN nq) Try.underlying26 Try.underlying5 Try.underlying9 (h2.drewN nq)
  have i3 : (3 : Int) ≤ (n : Int) := by omega
  have i4 : (4 : Int) ≤ (n : Int) := by omega
  have i3c : (3 : Int) ≤ (c : Int) := by omega
  have i4c : (4 : Int) ≤ (c : Int) := by omega
  have hl4 : (bs.drop 4, (0 : Int)).1.length ≤ maxLen := by simp; omega
  have hd := En.Sl.drop hb 4 (by omega)
  rw [show enU8.sz = 1 from rfl] at hd
  clear h1 h2
  generalize bs.take 3 = t3 at *
  generalize bs.take 4 = t4 at *
  generalize bs.drop 4 = left at *
  clear hb hl
  go_enter Try.func12, Try.ntmps12
  go_wp2_with fail
  go_quiet (fail)
  go_upto_region 8 with fail
  go_cut [5] (fun s5 wx => s5 = .pointer (some ⟨w.heap.size + 1, 0, none⟩) ∧ RdrAt 58 wx w.heap.size (w.heap.size + 1) (left, 0) ∧ Blk wx w.heap.size 25 #[.slice none 0 0, .slice none 0 0] ∧ Below w.heap.size w wx ∧ w.heap.size + 2 ≤ wx.heap.size)
  case first =>
    have hsz : ((w.alloc (.cells #[.slice none 0 0, .slice none 0 0] 25)).drewN nq).heap.size = w.heap.size + 1 := by simp
    have hbk : Blk ((w.alloc (.cells #[.slice none 0 0, .slice none 0 0] 25)).drewN nq) w.heap.size 25 #[.slice none 0 0, .slice none 0 0] := Blk.new _ _ _
    have hbw : ∀ v, Blk (((w.alloc (.cells #[.slice none 0 0, .slice none 0 0] 25)).drewN nq).alloc (.cells #[v, .int .i64 0] 58)) (w.heap.size + 1) 58 #[v, .int .i64 0] := fun v => by
      have := Blk.new ((w.alloc (.cells #[.slice none 0 0, .slice none 0 0] 25)).drewN nq) 58 #[v, .int .i64 0]
      rwa [hsz] at this
    have hmv : ∀ v k, k < w.heap.size → (((w.alloc (.cells #[.slice none 0 0, .slice none 0 0] 25)).drewN nq).alloc (.cells #[v, .int .i64 0] 58)).heap[k]? = w.heap[k]? := fun v k hk =>
      (below_alloc (below_drewN hB0 nq) (.cells #[v, .int .i64 0] 58)).block k hk
    by_cases hc4 : c = 4
    · subst hc4
      obtain rfl : n = 4 := by omega
      rw [if_pos rfl] at hd
      have HD := Aside.mk hd
      clear hd
      go_wp2_with fail
      go_meet
      exact ⟨rfl, ⟨_, hbw _, HD.out.move (hmv _) (fun k hk => hk), Nat.le_succ _⟩, hbk.alloc _, below_alloc (below_drewN hB0 nq) _, by simp⟩
    · rw [if_neg hc4] at hd
      have HD := Aside.mk hd
      clear hd
      go_wp2_with fail
      go_meet
      exact ⟨rfl, ⟨_, hbw _, HD.out.move (hmv _) (fun k hk => hk), Nat.le_succ _⟩, hbk.alloc _, below_alloc (below_drewN hB0 nq) _, by simp⟩
  case rest =>
    obtain ⟨rfl, hr, hF, hB, hsz⟩ := hcut
    clear hd e1 e2 b3 b4 hB0
    have hcnt := count26 w.heap.size (w.heap.size + 1) (left, 0) 16 wc hr hl4
    have hl5 := Nat.le_trans (countR_left (left, 0) 16) hl4
    obtain ⟨n1, hn1, hn16⟩ := countR_nat (left, 0) 16
    rw [show ((16 : Nat) : Int) = 16 from rfl] at hn1
    unfold NumPost at hcnt
    rw [hn1] at hcnt HR
    rw [Int.toNat_natCast] at HR
    generalize (countR (left, 0) 16).2 = s1 at *
    clear hn1
    go_wp2_with fail
    refine hcnt.mono ?_
    rintro e w1 ⟨rfl, hr1, hg1⟩
    have hF1 := hF.grown hg1 (by simp)
    have hB1 := hB.grown hg1 hB.size (fun k hk => by cases hk; omega)
    have hsz1 : w.heap.size + 2 ≤ w1.heap.size := Nat.le_trans hsz hg1.size
    clear hcnt hr hF hB hsz hg1
    go_upto_block 1 with (fail)
    go_cut [6] (fun s6 wx => ∃ xs : List Int, ∃ v : Value, ∃ st : RSt, Aside (loopR twoR n1 s1 = (xs, st)) ∧ Blk wx w.heap.size 25 #[v, .slice none 0 0] ∧ wx.ownsRow (w.heap.size + 2) 3 1 v xs.length (xs.map fun n => .int .i64 n) ∧ RdrAt 58 wx w.heap.size (w.heap.size + 1) st ∧ Below w.heap.size w wx ∧ w.heap.size + 2 ≤ wx.heap.size ∧ xs.length ≤ 16 ∧ st.1.length ≤ maxLen)
    case first =>
      clear HR
      go_wp2
      go_loopw [6] (fun j wr => ∃ k : Nat, ∃ st : RSt, ∃ xs : List Int, ∃ v : Value, j = .int .i64 k ∧ k ≤ 16 ∧ xs.length + k ≤ 16 ∧ st.1.length ≤ maxLen ∧
          Aside (loopR twoR n1 s1 = (xs ++ (loopR twoR k st).1, (loopR twoR k st).2)) ∧ Blk wr w.heap.size 25 #[v, .slice none 0 0] ∧ wr.ownsRow (w.heap.size + 2) 3 1 v xs.length (xs.map fun n => .int .i64 n) ∧ RdrAt 58 wr w.heap.size (w.heap.size + 1) st ∧ Below w.heap.size w wr ∧ w.heap.size + 2 ≤ wr.heap.size) (fun j wr => (intOf j).toNat)
      case atStart => exact ⟨n1, s1, [], _, rfl, hn16, by simpa using hn16, hl5, ⟨by simp⟩, hF1, World.ownsRow_nil _ _ _ _, hr1, hB1, hsz1⟩
      case round =>
        clear hF1 hr1 hB1 hsz1
        obtain ⟨k, st, xs, v, rfl, hk, hxk, hlst, HE, hb, hown, hr, hB, hsz⟩ := hrel
        have hr0 := Aside.mk hr
        obtain ⟨vr, hbr, hsr, _⟩ := id hr
        have hc1 := hbr.cell 1
        have hf1 := hbr.frozen 1
        have hd0 := hb.cell 0
        have hf0 := hb.frozen 0
        simp only [List.getElem?_toArray, List.getElem?_cons_zero, List.getElem?_cons_succ] at hc1 hd0
        by_cases hk0 : k = 0
        · subst hk0
          have HF : Aside (loopR twoR n1 s1 = (xs, st)) := ⟨by rw [HE.out]; simp [loopR]⟩
          clear HE
          go_wp2
          go_meet
          exact ⟨xs, v, st, HF, hb, hown, hr, hB, hsz, by omega, hlst⟩
        · by_cases he0 : st.2 = 0
          · obtain ⟨k, rfl⟩ : ∃ m, k = m + 1 := ⟨k - 1, by omega⟩
            have HL : Aside (loopR twoR n1 s1 = (xs ++ ((twoR st).1 :: (loopR twoR k (twoR st).2).1), (loopR twoR k (twoR st).2).2)) := ⟨by rw [HE.out, loopR, if_pos he0]⟩
            have htwo := fun W h => two27 w.heap.size (w.heap.size + 1) st W h hlst
            have hl4 := Nat.le_trans (twoR_left st) hlst
            rw [he0] at hc1
            clear HE he0 hbr hsr hk0
            generalize twoR st = r5 at *
            obtain ⟨r5, s5⟩ := r5
            unfold NumPost at htwo
            simp only at *
            go_wp2
            go_region_law (first | (refine step_app_lit rfl _ _ 22 rfl 3 (.int .i64 0) 1 8 Try.underlying22 Try.info3 rfl (by decide) (by decide) (w.heap.size + 2) v xs.length _ (by rfl) ((own_grown (w := wr.drew) hown hg5 (by omega)).alloc _) w5.heap.size 1 1 #[.int .i64 r5] (by rfl) (Blk.new _ _ _) rfl (by simp [Value.oneCell']) (by decide) (by omega) (by have h2 : wr.heap.size ≤ w5.heap.size := hg5.size; simp; omega) ?_; intro gg cap w6 hown6 hgr6 hat hlt6; have hb6 := Blk.grown (hb5.alloc (.cells #[.int .i64 r5] 3)) hgr6 (own_blk_ne ((own_grown (w := wr.drew) hown hg5 (by omega)).alloc (.cells #[.int .i64 r5] 3)) (hb5.alloc (.cells #[.int .i64 r5] 3)) (by decide)); have hd6 := hb6.cell 0; have hf6 := hb6.frozen 0; simp only [List.getElem?_toArray, List.getElem?_cons_zero, List.getElem?_cons_succ] at hd6) | (go_simp; go_at_call 27; refine (htwo wr.drew hr).mono ?_; rintro e w5 ⟨rfl, hr5, hg5⟩; have hb5 := Blk.grown (w := wr.drew) hb hg5 (by simp); have hsz5 := hb5.lt; have hd5 := hb5.cell 0; simp only [List.getElem?_toArray, List.getElem?_cons_zero, List.getElem?_cons_succ] at hd5; dsimp only))
            all_goals
              have hbn6 := own_blk_ne hown6 hb6 (by decide)
              have hr6 := (((hr5.alloc (.cells #[.int .i64 r5] 3)).keep hgr6 (fun k hk => by have := own_bound hown k hk; omega)).far (b := w.heap.size) (j := 0) (by omega) (.slice (some ⟨gg, 0, none⟩) (xs.length + 1) cap))
              have hB5 := below_alloc (hB.grown (grown_undrew hg5) hB.size (fun k hk => by cases hk; omega)) (.cells #[.int .i64 r5] 3)
              have hB6 := below_set (j := 0) (v := .slice (some ⟨gg, 0, none⟩) (xs.length + 1) cap) (hB5.grown hgr6 hB5.size (fun k hk => by have := own_bound hown k hk; omega)) (Nat.le_refl w.heap.size)
              have hsz6 : w.heap.size + 2 ≤ (w6.setCell ⟨w.heap.size, 0, none⟩ (.slice (some ⟨gg, 0, none⟩) (xs.length + 1) cap)).heap.size := by
                have h5 : wr.heap.size ≤ w5.heap.size := hg5.size
                have h6 := hgr6.size
                simp [World.setCell] at h6 ⊢
                omega
              have hown7 := own_set (j := 0) hown6 hbn6 (.slice (some ⟨gg, 0, none⟩) (xs.length + 1) cap)
              have hb7 := hb6.set_ 0 (.slice (some ⟨gg, 0, none⟩) (xs.length + 1) cap)
              simp only [List.setIfInBounds_toArray, List.set_cons_zero, List.set_cons_succ] at hb7
              have hlen : (xs ++ [r5]).length = xs.length + 1 := by simp
              have HL2 : Aside (loopR twoR n1 s1 = ((xs ++ [r5]) ++ (loopR twoR k s5).1, (loopR twoR k s5).2)) := ⟨by rw [HL.out]; simp⟩
              have HN := Aside.mk hlen
              clear hlen HL hb hown hr hr0 hr5 hg5 hb5 hgr6 hown6 hb6 hB hB5 hsz
              go_wp2
              go_roundw
              case rel => exact ⟨k, s5, xs ++ [r5], _, by first | rfl | go_num, by omega, by rw [HN.out]; omega, hl4, HL2, hb7, by rw [HN.out, List.map_append]; exact hown7, hr6, hB6, hsz6⟩
              case measure => simp [intOf] <;> omega
          · have HF : Aside (loopR twoR n1 s1 = (xs, st)) := ⟨by
              obtain ⟨k', rfl⟩ : ∃ m, k = m + 1 := ⟨k - 1, by omega⟩
              rw [HE.out, loopR, if_neg he0]; simp⟩
            have he0b : (st.2 == 0) = false := by simpa using he0
            have hk0' : 0 < k := by omega
            clear HE he0 hk0
            go_wp2
            go_meet
            exact ⟨xs, v, st, HF, hb, hown, hr, hB, hsz, by omega, hlst⟩
    case rest =>
      obtain ⟨xs, v, st, HX, hb, hown, hr, hB, hsz, hx16, hlst⟩ := hcut
      rw [HX.out] at HR
      simp only at HR
      have hcnt := count26 w.heap.size (w.heap.size + 1) st 64 wc hr hlst
      have hl6 := Nat.le_trans (countR_left st 64) hlst
      obtain ⟨n2, hn2, hn64⟩ := countR_nat st 64
      rw [show ((64 : Nat) : Int) = 64 from rfl] at hn2
      unfold NumPost at hcnt
      rw [hn2] at hcnt HR
      rw [Int.toNat_natCast] at HR
      generalize (countR st 64).2 = s2 at *
      clear hn2 HX
      obtain ⟨AL, cL, rfl, hcL⟩ := own_slice hown
      go_wp2_with fail
      refine hcnt.mono ?_
      rintro e w2 ⟨rfl, hr2, hg2⟩
      have hF2 := hb.grown hg2 (by simp)
      have hB2 := hB.grown hg2 hB.size (fun k hk => by cases hk; omega)
      have hsz2 : w.heap.size + 2 ≤ w2.heap.size := Nat.le_trans hsz hg2.size
      have hown2 := own_grown hown hg2 (by omega)
      clear hcnt hr hb hB hsz hg2 hown hlst
      go_upto_block 3 with (fail)
      go_cut [7] (fun s7 wx => ∃ ys : List (FSub × Value), ∃ v : Value, ∃ st : RSt, Aside (loopR subR n2 s2 = (ys.map Prod.fst, st)) ∧ Blk wx w.heap.size 25 #[.slice AL xs.length cL, v] ∧ wx.ownsRow (w.heap.size + 2) 3 1 (.slice AL xs.length cL) xs.length (xs.map fun n => .int .i64 n) ∧ OwnSubs wx (w.heap.size + 2) v ys ∧ RdrAt 58 wx w.heap.size (w.heap.size + 1) st ∧ Below w.heap.size w wx ∧ w.heap.size + 2 ≤ wx.heap.size ∧ ys.length ≤ 64 ∧ st.1.length ≤ maxLen)
      case first =>
        clear HR
        go_wp2
        go_loopw [7] (fun j wr => ∃ k : Nat, ∃ st : RSt, ∃ ys : List (FSub × Value), ∃ v : Value, j = .int .i64 k ∧ k ≤ 64 ∧ ys.length + k ≤ 64 ∧ st.1.length ≤ maxLen ∧
            Aside (loopR subR n2 s2 = (ys.map Prod.fst ++ (loopR subR k st).1, (loopR subR k st).2)) ∧ Blk wr w.heap.size 25 #[.slice AL xs.length cL, v] ∧ wr.ownsRow (w.heap.size + 2) 3 1 (.slice AL xs.length cL) xs.length (xs.map fun n => .int .i64 n) ∧ OwnSubs wr (w.heap.size + 2) v ys ∧ RdrAt 58 wr w.heap.size (w.heap.size + 1) st ∧ Below w.heap.size w wr ∧ w.heap.size + 2 ≤ wr.heap.size) (fun j wr => (intOf j).toNat)
        case atStart => exact ⟨n2, s2, [], _, rfl, hn64, by simpa using hn64, hl6, ⟨by simp⟩, hF2, hown2, OwnSubs.nil _ _, hr2, hB2, hsz2⟩
        case round =>
          clear hF2 hr2 hB2 hsz2 hown2
          obtain ⟨k, st, ys, v, rfl, hk, hxk, hlst, HE, hb, hown, hos, hr, hB, hsz⟩ := hrel
          have hr0 := Aside.mk hr
          obtain ⟨vr, hbr, hsr, _⟩ := id hr
          have hc1 := hbr.cell 1
          have hf1 := hbr.frozen 1
          have hd1 := hb.cell 1
          have hf0 := hb.frozen 1
          simp only [List.getElem?_toArray, List.getElem?_cons_zero, List.getElem?_cons_succ] at hc1 hd1
          by_cases hk0 : k = 0
          · subst hk0
            have HF : Aside (loopR subR n2 s2 = (ys.map Prod.fst, st)) := ⟨by rw [HE.out]; simp [loopR]⟩
            clear HE
            go_wp2
            go_meet
            exact ⟨ys, v, st, HF, hb, hown, hos, hr, hB, hsz, by omega, hlst⟩
          · by_cases he0 : st.2 = 0
            · obtain ⟨k, rfl⟩ : ∃ m, k = m + 1 := ⟨k - 1, by omega⟩
              have HL : Aside (loopR subR n2 s2 = (ys.map Prod.fst ++ ((subR st).1 :: (loopR subR k (subR st).2).1), (loopR subR k (subR st).2).2)) := ⟨by rw [HE.out, loopR, if_pos he0]⟩
              have hsub := fun W h => sub28 w.heap.size (w.heap.size + 1) st W h hlst
              have hl4 := Nat.le_trans (subR_left st) hlst
              rw [he0] at hc1
              clear HE he0 hbr hsr hk0
              generalize subR st = r5 at *
              obtain ⟨r5, s5⟩ := r5
              simp only at *
              go_wp2
              go_region_law (first | (refine step_app_lit rfl _ _ 23 rfl 40 _ 3 40 Try.underlying23 Try.info40 rfl (by decide) (by decide) (w.heap.size + 2) v ys.length _ (by rfl) (hos5.alloc (.cells #[.int .i64 r5.id, .int .i64 r5.from_, .slice Au r5.ranges.length cu] 40)).1 w5.heap.size 1 1 #[.int .i64 r5.id, .int .i64 r5.from_, .slice Au r5.ranges.length cu] (by rfl) (Blk.new _ _ _) rfl (by simp [Value.oneCell']) (by decide) (by omega) (by have h2 : wr.heap.size ≤ w5.heap.size := hg5.size; simp; omega) ?_; intro gg cap w6 hown6 hgr6 hat hlt6; have hb6 := Blk.grown (hb5.alloc (.cells #[.int .i64 r5.id, .int .i64 r5.from_, .slice Au r5.ranges.length cu] 40)) hgr6 (own_blk_ne (hos5.alloc (.cells #[.int .i64 r5.id, .int .i64 r5.from_, .slice Au r5.ranges.length cu] 40)).1 (hb5.alloc (.cells #[.int .i64 r5.id, .int .i64 r5.from_, .slice Au r5.ranges.length cu] 40)) (by decide)); have hd6 := hb6.cell 1; have hf6 := hb6.frozen 1; simp only [List.getElem?_toArray, List.getElem?_cons_zero, List.getElem?_cons_succ] at hd6) | (go_simp; go_at_call 28; refine (hsub wr.drew hr).mono ?_; rintro e w5 ⟨u, rfl, hu, hr5, hg5⟩; obtain ⟨Au, cu, rfl, hcu⟩ := own_slice hu; have hos5 := OwnSubs.grown (w := wr.drew) hos hg5 (by omega); have hb5 := Blk.grown (w := wr.drew) hb hg5 (by simp); have hsz5 := hb5.lt; have hd5 := hb5.cell 1; simp only [List.getElem?_toArray, List.getElem?_cons_zero, List.getElem?_cons_succ] at hd5; dsimp only))
              all_goals
                have hu' := own_less hu (show w.heap.size + 2 ≤ wr.drew.heap.size from hsz)
                have hos6 := OwnSubs.snoc (hos5.alloc (.cells #[.int .i64 r5.id, .int .i64 r5.from_, .slice Au r5.ranges.length cu] 40)) (hu'.alloc _) hown6 rfl rfl hgr6
                have hos7 := hos6.set_ (b := w.heap.size) (j := 1) (by omega) (.slice (some ⟨gg, 0, none⟩) (ys.length + 1) cap)
                have hr6 := (((hr5.alloc (.cells #[.int .i64 r5.id, .int .i64 r5.from_, .slice Au r5.ranges.length cu] 40)).keep hgr6 (fun k hk => by have := own_bound hos.1 k hk; omega)).far (b := w.heap.size) (j := 1) (by omega) (.slice (some ⟨gg, 0, none⟩) (ys.length + 1) cap))
                have hB5 := below_alloc (hB.grown (grown_undrew hg5) hB.size (fun k hk => by cases hk; omega)) (.cells #[.int .i64 r5.id, .int .i64 r5.from_, .slice Au r5.ranges.length cu] 40)
                have hB6 := below_set (j := 1) (v := .slice (some ⟨gg, 0, none⟩) (ys.length + 1) cap) (hB5.grown hgr6 hB5.size (fun k hk => by have := own_bound hos.1 k hk; omega)) (Nat.le_refl w.heap.size)
                have hsz6 : w.heap.size + 2 ≤ (w6.setCell ⟨w.heap.size, 1, none⟩ (.slice (some ⟨gg, 0, none⟩) (ys.length + 1) cap)).heap.size := by
                  have h5 : wr.heap.size ≤ w5.heap.size := hg5.size
                  have h6 := hgr6.size
                  simp [World.setCell] at h6 ⊢
                  omega
                have hL5 := (own_grown (w := wr.drew) hown hg5 (by omega)).alloc (.cells #[.int .i64 r5.id, .int .i64 r5.from_, .slice Au r5.ranges.length cu] 40)
                have hL6 := hL5.kept hgr6 (own_types hL5 (hos5.alloc (.cells #[.int .i64 r5.id, .int .i64 r5.from_, .slice Au r5.ranges.length cu] 40)).1 (by decide))
                have hL7 := own_set (j := 1) hL6 (own_ne_lt hL6 (show w.heap.size < w.heap.size + 2 by omega)) (.slice (some ⟨gg, 0, none⟩) (ys.length + 1) cap)
                have hb7 := hb6.set_ 1 (.slice (some ⟨gg, 0, none⟩) (ys.length + 1) cap)
                simp only [List.setIfInBounds_toArray, List.set_cons_zero, List.set_cons_succ] at hb7
                have hlen : (ys ++ [(r5, Value.slice Au r5.ranges.length cu)]).length = ys.length + 1 := by simp
                have HL2 : Aside (loopR subR n2 s2 = ((ys ++ [(r5, Value.slice Au r5.ranges.length cu)]).map Prod.fst ++ (loopR subR k s5).1, (loopR subR k s5).2)) := ⟨by rw [HL.out]; simp⟩
                have HN := Aside.mk hlen
                clear hlen HL hb hown hr hr0 hr5 hg5 hb5 hgr6 hown6 hb6 hB hB5 hsz hos hos5 hos6 hu hu' hL5 hL6
                go_wp2
                go_roundw
                case rel => exact ⟨k, s5, _, _, by first | rfl | go_num, by omega, by rw [HN.out]; omega, hl4, HL2, hb7, hL7, hos7, hr6, hB6, hsz6⟩
                case measure => simp [intOf] <;> omega
            · have HF : Aside (loopR subR n2 s2 = (ys.map Prod.fst, st)) := ⟨by
                obtain ⟨k', rfl⟩ : ∃ m, k = m + 1 := ⟨k - 1, by omega⟩
                rw [HE.out, loopR, if_neg he0]; simp⟩
              have he0b : (st.2 == 0) = false := by simpa using he0
              have hk0' : 0 < k := by omega
              clear HE he0 hk0
              go_wp2
              go_meet
              exact ⟨ys, v, st, HF, hb, hown, hos, hr, hB, hsz, by omega, hlst⟩
      case rest =>
        obtain ⟨ys, v, st, HX, hb, hown, hos, hr, hB, hsz, hy64, hlst⟩ := hcut
        rw [HX.out] at HR
        simp only at HR
        obtain ⟨left2, err⟩ := st
        obtain ⟨vr, hbr, hsr, _⟩ := id hr
        obtain ⟨Ar, cr, rfl, hcr⟩ := hsr.form
        obtain ⟨AS, cS, rfl, hcS⟩ := own_slice hos.1
        have hc0 := hbr.cell 0
        have hc1 := hbr.cell 1
        have hd0 := hb.cell 0
        have hd1 := hb.cell 1
        have hf0 := hb.frozen 0
        have hf1 := hb.frozen 1
        simp only [List.getElem?_toArray, List.getElem?_cons_zero, List.getElem?_cons_succ] at hc0 hc1 hd0 hd1
        have hwlt : w.heap.size < wc.heap.size := by omega
        have hRL := own_rdI hown
        have hRS := hos.rd
        have hright := right15 _ _ ⟨xs, ys.map Prod.fst⟩ wc hRL hRS (by simp only; unfold maxLen; omega) (by simp only [List.length_map]; unfold maxLen; omega)
        simp only at *
        unfold maxLen at hlst
        generalize left2.length = m at *
        generalize (First.right ⟨xs, ys.map Prod.fst⟩) = rt at *
        by_cases he : err = 0
        · subst he
          by_cases hm : 0 < m
          · have HF : Aside (R = (⟨[], []⟩, 5)) := ⟨by rw [HR.out, if_neg (by simp), if_pos hm]⟩
            clear HR HX hown hos hr hbr hsr hRL hRS hright
            go_wp2
            rw [HF.out]
            refine bodyPost_ret (v := .tuple #[.agg #[.slice none 0 0, .slice none 0 0], .int .i64 5]) (by simp [results, Try.results12, go_sem, hd0, hd1]) rfl (DecPost.zero rfl ?_)
            exact below_set (below_set hB (Nat.le_refl _)) (Nat.le_refl _)
          · cases rt
            · have HF : Aside (R = (⟨[], []⟩, 3)) := ⟨by rw [HR.out, if_neg (by simp), if_neg hm]; rfl⟩
              clear HR HX hown hos hr hbr hsr hRL hRS
              go_wp2_with fail
              refine hright.mono ?_
              rintro e w3 ⟨rfl, hb3⟩
              obtain ⟨hc, hf⟩ := bcell hb3
              have g0 := (hc _ 0 hwlt).trans hd0
              have g1 := (hc _ 1 hwlt).trans hd1
              go_wp2
              rw [HF.out]
              refine bodyPost_ret (v := .tuple #[.agg #[.slice none 0 0, .slice none 0 0], .int .i64 3]) (by simp [results, Try.results12, go_sem, hd0, hd1, g0, g1]) rfl (DecPost.zero rfl ?_)
              exact below_set (below_set (below_step hB hb3) (Nat.le_refl _)) (Nat.le_refl _)
            · have HF : Aside (R = (⟨xs, ys.map Prod.fst⟩, 0)) := ⟨by rw [HR.out, if_neg (by simp), if_neg hm]; rfl⟩
              clear HR HX hr hbr hsr
              go_wp2_with fail
              refine hright.mono ?_
              rintro e w3 ⟨rfl, hb3⟩
              obtain ⟨hc, hf⟩ := bcell hb3
              have g0 := (hc _ 0 hwlt).trans hd0
              have g1 := (hc _ 1 hwlt).trans hd1
              have hown3 := own_below hown hb3
              have hos3 : OwnSubs w3 (w.heap.size + 2) (.slice AS ys.length cS) ys := ⟨own_below hos.1 hb3, fun p hp => own_below (hos.2 p hp) hb3⟩
              clear hown hos hRL hRS hright
              go_wp2
              rw [HF.out]
              refine bodyPost_ret (v := .tuple #[.agg #[.slice AL xs.length cL, .slice AS ys.length cS], .int .i64 0]) (by simp [results, Try.results12, go_sem, hd0, hd1, g0, g1]) rfl ?_
              refine ⟨_, _, rfl, own_rdI (own_set (own_set hown3 (own_ne_lt hown3 (by omega)) _) (own_ne_lt hown3 (by omega)) _), ((hos3.set_ (by omega) _).set_ (by omega) _).rd, below_set (below_set (below_step hB hb3) (Nat.le_refl _)) (Nat.le_refl _)⟩
        · have HF : Aside (R = (⟨[], []⟩, err)) := ⟨by rw [HR.out, if_pos he]⟩
          have heb : (err != 0) = true := by simpa using he
          clear HR HX hown hos hr hbr hsr hRL hRS hright he
          go_wp2
          go_region
          all_goals
            go_wp2
            rw [HF.out]
            refine bodyPost_ret (v := .tuple #[.agg #[.slice none 0 0, .slice none 0 0], .int .i64 err]) (by simp [results, Try.results12, go_sem, hd0, hd1]) rfl (DecPost.zero rfl ?_)
            exact below_set (below_set (below_drew hB) (Nat.le_refl _)) (Nat.le_refl _)

set_option maxHeartbeats 2000000 in
theorem decode12 (vb : Value) (bs : List UInt8) (w : World) (hb : enU8.Rd w vb bs) (hl : bs.length ≤ maxLen) :
    Calls Try.prog 12 #[vb] w (DecPost w (decodeF bs)) := by
  obtain ⟨R, hR⟩ : ∃ R, R = decodeF bs := ⟨_, rfl⟩
  rw [← hR]
  have HR := Aside.mk hR
  clear hR
  obtain ⟨A, c, rfl, hlc⟩ := hb.form
  obtain ⟨n, hN⟩ : ∃ n, n = bs.length := ⟨_, rfl⟩
  have hl' := hl
  unfold maxLen at hl
  rw [← hN] at hl hlc hb ⊢
  have HN := Aside.mk hN
  clear hN
  have hB0 : Below w.heap.size w (w.alloc (.cells #[.slice none 0 0, .slice none 0 0] 25)) := (Below.refl _ _).alloc (Nat.le_refl _) _
  by_cases h4 : n < 4
  · have HF : Aside (R = (⟨[], []⟩, 2)) := ⟨by rw [HR.out, decodeF, if_pos (by rw [← HN.out]; exact h4)]⟩
    clear HR hb
    go_enter Try.func12, Try.ntmps12
    go_wp2
    rw [HF.out]
    refine bodyPost_ret (v := .tuple #[.agg #[.slice none 0 0, .slice none 0 0], .int .i64 2]) (by simp [results, Try.results12, go_sem]) rfl (DecPost.zero rfl ?_)
    exact hB0
  · have h1 := ((hb.below hB0).take 3 (by omega))
    have h2 := ((hb.below hB0).take 4 (by omega))
    have e1 := fun nq => sl_string (w := (w.alloc (.cells #[.slice none 0 0, .slice none 0 0] 25)).drewN nq) Try.underlying26 Try.underlying5 Try.underlying9 (h1.drewN nq)
    have e2 := fun nq => sl_string (w := (w.alloc (.cells #[.slice none 0 0, .slice none 0 0] 25)).drewN nq) Try.underlying26 Try.underlying5 Try.underlying9 (h2.drewN nq)
    have i3 : (3 : Int) ≤ (n : Int) := by omega
    have i4 : (4 : Int) ≤ (n : Int) := by omega
    have i3c : (3 : Int) ≤ (c : Int) := by omega
    have i4c : (4 : Int) ≤ (c : Int) := by omega
    have hk3 : ((⟨#[82, 83, 84, 1]⟩ : ByteArray).extract 0 3).toList = [82, 83, 84] := by decide +kernel
    by_cases q3 : bs.take 3 = [82, 83, 84]
    · by_cases q4 : bs.take 4 = [82, 83, 84, 1]
      · have b3 : (bs.take 3 == ((⟨#[82, 83, 84, 1]⟩ : ByteArray).extract 0 3).toList) = true := by rw [hk3, q3]; rfl
        have b4 : (bs.take 4 == [82, 83, 84, 1]) = true := by simpa using q4
        exact decode12_main A c n bs w hb hl' hl hlc h4 b3 b4 R ⟨by rw [HR.out, decodeF, if_neg (by rw [← HN.out]; exact h4), if_neg (by simpa using q3), if_neg (by simpa using q4)]⟩
      · have HF : Aside (R = (⟨[], []⟩, 11)) := ⟨by rw [HR.out, decodeF, if_neg (by rw [← HN.out]; exact h4), if_neg (by simpa using q3), if_pos q4]⟩
        have b3 : (bs.take 3 == ((⟨#[82, 83, 84, 1]⟩ : ByteArray).extract 0 3).toList) = true := by rw [hk3, q3]; rfl
        have b4 : (bs.take 4 == [82, 83, 84, 1]) = false := by simpa using q4
        clear HR hb q3 q4 hk3 h1 h2
        generalize bs.take 3 = t3 at *
        generalize bs.take 4 = t4 at *
        go_enter Try.func12, Try.ntmps12
        go_wp2_with fail
        go_quiet (fail)
        go_wp2
        rw [HF.out]
        refine bodyPost_ret (v := .tuple #[.agg #[.slice none 0 0, .slice none 0 0], .int .i64 11]) (by simp [results, Try.results12, go_sem]) rfl (DecPost.zero rfl ?_)
        exact below_set (below_set (below_drewN hB0 _) (Nat.le_refl _)) (Nat.le_refl _)
    · have HF : Aside (R = (⟨[], []⟩, 3)) := ⟨by rw [HR.out, decodeF, if_neg (by rw [← HN.out]; exact h4), if_pos q3]⟩
      have b3 : (bs.take 3 == ((⟨#[82, 83, 84, 1]⟩ : ByteArray).extract 0 3).toList) = false := by rw [hk3]; simpa using q3
      clear HR hb q3 hk3 h1 h2 e2
      generalize bs.take 3 = t3 at *
      go_enter Try.func12, Try.ntmps12
      go_wp2_with fail
      go_quiet (fail)
      go_wp2
      rw [HF.out]
      refine bodyPost_ret (v := .tuple #[.agg #[.slice none 0 0, .slice none 0 0], .int .i64 3]) (by simp [results, Try.results12, go_sem]) rfl (DecPost.zero rfl ?_)
      exact below_set (below_set (below_drewN hB0 _) (Nat.le_refl _)) (Nat.le_refl _)
end Go.Proofs.Ytamaihlpdebekaa
