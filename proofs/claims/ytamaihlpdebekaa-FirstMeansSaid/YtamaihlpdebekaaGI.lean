/- rosetteref05.Get, rosetteref04.Right, rosetteref15.Meets. -/
import Derived.Test.YtamaihlpdebekaaFE
namespace Go.Proofs.Ytamaihlpdebekaa
open Go.RowKit
set_option linter.unusedVariables false
set_option linter.unusedSimpArgs false

theorem getAttr_drop {e : List Attr} {nm : ByteArray} {k : Nat} (h : k < e.length) : (e.drop k).find? (fun a => strEq a.name nm) = if strEq e[k].name nm then some e[k] else (e.drop (k + 1)).find? (fun a => strEq a.name nm) := by
  rw [List.drop_eq_getElem_cons h, List.find?_cons]
  cases strEq e[k].name nm <;> rfl

set_option maxHeartbeats 1000000 in
theorem get42 (v : Value) (e : List Attr) (nm : ByteArray) (w : World) (h : enAttr.Rd w v e) (hn : e.length ≤ maxLen) :
    Calls Try.prog 42 #[v, .string nm] w fun r w' => r = .returned (.tuple #[(getVal e nm).agg, .bool (getIs e nm)]) ∧ Below w.heap.size w w' := by
  obtain ⟨R, hR⟩ : ∃ R, R = Value.tuple #[(getVal e nm).agg, .bool (getIs e nm)] := ⟨_, rfl⟩
  rw [← hR]
  have HR := Aside.mk hR
  clear hR
  obtain ⟨A, c, rfl, hl⟩ := h.form
  unfold maxLen at hn
  obtain ⟨n, hN⟩ : ∃ n, n = e.length := ⟨_, rfl⟩
  rw [← hN] at hn hl h ⊢
  have HN := Aside.mk hN
  clear hN
  have hB0 : Below w.heap.size w (w.alloc (.cells #[.int .i64 0, .int .i64 0, .string ⟨#[]⟩] 48)) := (Below.refl _ _).alloc (Nat.le_refl _) _
  have h0 := h.below hB0
  clear h
  go_enter Try.func42, Try.ntmps42
  go_wp2
  go_loop [6] (fun j => ∃ k : Nat, j = .int .i64 k ∧ k ≤ n ∧ Aside (getAttr e nm = (e.drop k).find? (fun a => strEq a.name nm))) (fun j => n - (intOf j).toNat)
  case atStart => exact ⟨0, rfl, Nat.zero_le _, ⟨rfl⟩⟩
  case round =>
    obtain ⟨k, rfl, hk, HE⟩ := hrel
    by_cases hlt : k < n
    · have hlt' : k < e.length := by rw [← HN.out]; exact hlt
      obtain ⟨a, rfl, hab, g0, g1, g2, g3⟩ := rdAttr_at h0 k hlt'
      have HD := Aside.mk (getAttr_drop (nm := nm) hlt')
      generalize e[k] = x at *
      cases hq : strEq x.name nm
      · have HX : Aside (getAttr e nm = (e.drop (k + 1)).find? (fun a => strEq a.name nm)) := ⟨by rw [HE.out, HD.out, hq]; rfl⟩
        unfold strEq at hq
        clear HE HD h0
        go_wp2
        go_round
        case rel => exact ⟨k + 1, by go_num, by omega, HX⟩
        case measure => simp [intOf]; omega
      · have HF : Aside (R = .tuple #[.agg #[.int .i64 x.val.kind, .int .i64 x.val.num, .string x.val.text], .bool true]) := ⟨by rw [HR.out, getVal, getIs, HE.out, HD.out, hq]; rfl⟩
        unfold strEq at hq
        clear HE HD h0
        go_wp2
        refine bodyPost_ret (v := .tuple #[.agg #[.int .i64 x.val.kind, .int .i64 x.val.num, .string x.val.text], .bool true]) (by simp [results, Try.results42, go_sem]) rfl ⟨by rw [HF.out], ?_⟩
        exact (Below.refl _ _).alloc (Nat.le_refl _) _
    · have HF : Aside (R = .tuple #[.agg #[.int .i64 0, .int .i64 0, .string ⟨#[]⟩], .bool false]) := ⟨by
        have : e.drop k = [] := List.drop_eq_nil_of_le (by rw [← HN.out]; omega)
        rw [HR.out, getVal, getIs, HE.out, this]; rfl⟩
      clear HE h0
      go_wp2
      refine bodyPost_ret (v := .tuple #[.agg #[.int .i64 0, .int .i64 0, .string ⟨#[]⟩], .bool false]) (by simp [results, Try.results42, go_sem]) rfl ⟨by rw [HF.out], ?_⟩
      exact (Below.refl _ _).alloc (Nat.le_refl _) _

def GVal.right (v : GVal) : Bool :=
  if v.kind = 1 then v.text.toList == [] else if v.kind = 2 then decide (v.num = 0) && decide (v.text.size ≤ 64) else if v.kind = 3 then (v.text.toList == []) && decide (0 ≤ v.num) && decide (v.num ≤ 1) else false

set_option maxHeartbeats 1000000 in
theorem right43 (x : GVal) (w : World) : Calls Try.prog 43 #[.agg #[.int .i64 x.kind, .int .i64 x.num, .string x.text]] w fun e w' => e = .returned (.bool x.right) ∧ Below w.heap.size w w' := by
  obtain ⟨R, hR⟩ : ∃ R, R = x.right := ⟨_, rfl⟩
  rw [← hR]
  unfold GVal.right at hR
  have HR := Aside.mk hR
  clear hR
  obtain ⟨kd, nu, tx⟩ := x
  simp only at *
  have hB0 : Below w.heap.size w (w.alloc (.cells #[.int .i64 kd, .int .i64 nu, .string tx] 48)) := (Below.refl _ _).alloc (Nat.le_refl _) _
  by_cases h1 : kd = 1
  · subst h1
    have HF : Aside (R = (tx.toList == [])) := ⟨by rw [HR.out, if_pos rfl]⟩
    clear HR
    cases ht : (tx.toList == [])
    · rw [ht] at HF
      have ht2 : ¬ tx.toList = [] := by simpa using ht
      go_enter Try.func43, Try.ntmps43
      go_wp2
      go_ret
      exact ⟨by rw [HF.out]; simp [ht2], hB0⟩
    · rw [ht] at HF
      have ht2 : tx.toList = [] := by simpa using ht
      go_enter Try.func43, Try.ntmps43
      go_wp2
      go_ret
      exact ⟨by rw [HF.out]; simp [ht2], hB0⟩
  · have h1b : (kd == 1) = false := by simpa using h1
    by_cases h2 : kd = 2
    · subst h2
      have HF : Aside (R = (decide (nu = 0) && decide (tx.size ≤ 64))) := ⟨by rw [HR.out, if_neg (by decide), if_pos rfl]⟩
      clear HR h1 h1b
      by_cases hn : nu = 0
      · subst hn
        have HG : Aside (R = decide ((tx.size : Int) ≤ 64)) := ⟨by rw [HF.out, decide_eq_true rfl, Bool.true_and]; exact dec_eq (by omega)⟩
        clear HF
        go_enter Try.func43, Try.ntmps43
        go_wp2
        go_ret
        exact ⟨ret_bool HG.out.symm, hB0⟩
      · have HG : Aside (R = false) := ⟨by rw [HF.out, decide_eq_false hn, Bool.false_and]⟩
        have hnb : (nu == 0) = false := by simpa using hn
        clear HF hn
        go_enter Try.func43, Try.ntmps43
        go_wp2
        go_ret
        exact ⟨ret_bool HG.out.symm, hB0⟩
    · have h2b : (kd == 2) = false := by simpa using h2
      by_cases h3 : kd = 3
      · subst h3
        have HF : Aside (R = ((tx.toList == []) && decide (0 ≤ nu) && decide (nu ≤ 1))) := ⟨by rw [HR.out, if_neg (by decide), if_neg (by decide), if_pos rfl]⟩
        clear HR h1 h1b h2 h2b
        cases ht : (tx.toList == [])
        · rw [ht] at HF
          have ht2 : ¬ tx.toList = [] := by simpa using ht
          have HG : Aside (R = false) := ⟨by rw [HF.out, Bool.false_and, Bool.false_and]⟩
          clear HF
          go_enter Try.func43, Try.ntmps43
          go_wp2
          go_ret
          exact ⟨ret_bool HG.out.symm, hB0⟩
        · rw [ht] at HF
          have ht2 : tx.toList = [] := by simpa using ht
          by_cases hn0 : 0 ≤ nu
          · have HG : Aside (R = decide (nu ≤ 1)) := ⟨by rw [HF.out, decide_eq_true hn0, Bool.true_and, Bool.true_and]⟩
            clear HF
            go_enter Try.func43, Try.ntmps43
            go_wp2
            go_ret
            exact ⟨ret_bool HG.out.symm, hB0⟩
          · have HG : Aside (R = false) := ⟨by rw [HF.out, decide_eq_false hn0, Bool.true_and, Bool.false_and]⟩
            clear HF
            go_enter Try.func43, Try.ntmps43
            go_wp2
            go_ret
            exact ⟨ret_bool HG.out.symm, hB0⟩
      · have HG : Aside (R = false) := ⟨by rw [HR.out, if_neg h1, if_neg h2, if_neg h3]⟩
        have h3b : (kd == 3) = false := by simpa using h3
        clear HR h1 h2 h3
        go_enter Try.func43, Try.ntmps43
        go_wp2
        go_ret
        exact ⟨ret_bool HG.out.symm, hB0⟩

theorem met_eq (e : List Attr) (r : Rng) : r.met e = (getIs e r.name && ((getVal e r.name).right && (decide ((getVal e r.name).kind = 1) && (decide (r.lo ≤ (getVal e r.name).num) && decide ((getVal e r.name).num ≤ r.hi))))) := by
  unfold Rng.met getIs
  cases hg : getAttr e r.name with
  | none => simp [getVal, hg, GVal.zero]
  | some x =>
    simp only [getVal, hg, Option.map_some, Option.getD_some, Option.isSome_some, Bool.true_and]
    unfold GVal.right inB
    by_cases h1 : x.val.kind = 1
    · rw [if_pos h1, decide_eq_true h1, Bool.true_and, Bool.true_and]
      rw [show decide (x.val.text.toList = []) = (x.val.text.toList == []) from by cases h : x.val.text.toList <;> simp]
    · rw [decide_eq_false h1, Bool.false_and, Bool.false_and, Bool.and_false]
theorem all_drop {T : Type} {p : T → Bool} {l : List T} {k : Nat} (h : k < l.length) : (l.drop k).all p = (p l[k] && (l.drop (k + 1)).all p) := by
  rw [List.drop_eq_getElem_cons h, List.all_cons]

set_option maxHeartbeats 2000000 in
theorem meets19 (vl ve : Value) (l : List Rng) (e : List Attr) (w : World) (hl : enRng.Rd w vl l) (he : enAttr.Rd w ve e) (hnl : l.length ≤ maxLen) (hne : e.length ≤ maxLen) :
    Calls Try.prog 19 #[vl, ve] w fun x w' => x = .returned (.bool (fmeets l e)) ∧ Below w.heap.size w w' := by
  obtain ⟨R, hR⟩ : ∃ R, R = fmeets l e := ⟨_, rfl⟩
  rw [← hR]
  have HR := Aside.mk hR
  clear hR
  obtain ⟨A, c, rfl, hlc⟩ := hl.form
  have HNE := Aside.mk hne
  unfold maxLen at hnl
  obtain ⟨n, hN⟩ : ∃ n, n = l.length := ⟨_, rfl⟩
  rw [← hN] at hnl hlc hl ⊢
  have HN := Aside.mk hN
  clear hN hne
  have hB0 : Below w.heap.size w w := Below.refl _ _
  have hve : ∃ Ae ce, ve = .slice Ae e.length ce := by obtain ⟨Ae, ce, h, _⟩ := he.form; exact ⟨Ae, ce, h⟩
  obtain ⟨Ae, ce, rfl⟩ := hve
  go_enter Try.func19, Try.ntmps19
  go_wp2
  go_loopw [5, 6, 7, 8] (fun j u6 u7 u8 wr => ∃ k : Nat, j = .int .i64 k ∧ k ≤ n ∧ Aside (R = (l.drop k).all (fun r => r.met e)) ∧ Below w.heap.size w wr) (fun j u6 u7 u8 wr => n - (intOf j).toNat)
  case atStart => exact ⟨0, rfl, Nat.zero_le _, ⟨by rw [HR.out, fmeets]; rfl⟩, hB0⟩
  case round =>
    clear HR hB0
    obtain ⟨k, rfl, hk, HE, hB⟩ := hrel
    by_cases hlt : k < n
    · have hlt' : k < l.length := by rw [← HN.out]; exact hlt
      obtain ⟨a, rfl, hab, h0, h1, h2⟩ := rdRng_at (hl.below hB) k hlt'
      have HD := Aside.mk (all_drop (p := fun r => r.met e) hlt')
      generalize l[k] = r at *
      have HM := Aside.mk (met_eq e r)
      have hget := get42 _ e r.name wr (he.below hB) HNE.out
      obtain ⟨x, hx⟩ : ∃ x, x = getVal e r.name := ⟨_, rfl⟩
      obtain ⟨is, his⟩ : ∃ b, b = getIs e r.name := ⟨_, rfl⟩
      rw [← hx, ← his] at hget HM
      unfold GVal.agg at hget
      clear hl he hx his
      have i0 : (0 : Int) ≤ (k : Int) := Int.natCast_nonneg _
      have i1 : (k : Int) < (n : Int) := by omega
      have hab3 : (a.add (k * 3)).block < wr.heap.size := by rw [block_of_add]; exact hab
      go_wp2_with fail
      refine hget.mono ?_
      rintro q w2 ⟨rfl, hb⟩
      have hB2 := below_step hB hb
      have hal : Below w2.heap.size w2 (w2.alloc (.cells #[.int .i64 x.kind, .int .i64 x.num, .string x.text] 48)) := (Below.refl _ _).alloc (Nat.le_refl _) _
      have hx2 := Blk.new w2 48 #[.int .i64 x.kind, .int .i64 x.num, .string x.text]
      have hrt := right43 x (w2.alloc (.cells #[.int .i64 x.kind, .int .i64 x.num, .string x.text] 48))
      have hb13 := below_step hb hal
      go_wp2_with fail
      refine hrt.mono ?_
      rintro q w4 ⟨rfl, hb4⟩
      have hB4 := below_step (below_step hB2 hal) hb4
      have hx4 := hx2.below hb4 hx2.lt
      have hbr := below_step hb13 hb4
      have g1 := (hbr.cell (p := ⟨(a.add (k * 3)).block, (a.add (k * 3)).off + 1, none⟩) hab3).trans h1
      have g2 := (hbr.cell (p := ⟨(a.add (k * 3)).block, (a.add (k * 3)).off + 2, none⟩) hab3).trans h2
      have v0 : w4.cell? ⟨w2.heap.size, 0, none⟩ = some (.int .i64 x.kind) := (hx4.cell 0).trans rfl
      have v1 : w4.cell? ⟨w2.heap.size, 1, none⟩ = some (.int .i64 x.num) := (hx4.cell 1).trans rfl
      clear hget hrt hb hal hx2 hb13 hb4 hx4 hbr h0 h1 h2 hab3 hB hB2
      have HM2 : Aside (R = (is && (x.right && (decide (x.kind = 1) && (decide (r.lo ≤ x.num) && decide (x.num ≤ r.hi)))) && (l.drop (k + 1)).all fun r => r.met e)) := ⟨by rw [HE.out, HD.out, HM.out]⟩
      clear HE HD HM
      cases is
      · have HF : Aside (R = false) := ⟨by rw [HM2.out]; rfl⟩
        clear HM2
        go_wp2
        go_quiet (fail)
        go_wp2
        go_ret
        exact ⟨by rw [HF.out]; rfl, below_drewN hB4 _⟩
      generalize x.right = ok at *
      cases ok
      · have HF : Aside (R = false) := ⟨by rw [HM2.out]; rfl⟩
        clear HM2
        go_wp2
        go_quiet (fail)
        go_wp2
        go_ret
        exact ⟨by rw [HF.out]; rfl, below_drewN hB4 _⟩
      by_cases hk1 : x.kind = 1
      · have hk1b : (x.kind != 1) = false := by simpa using hk1
        by_cases hlo : x.num < r.lo
        · have HF : Aside (R = false) := ⟨by rw [HM2.out, decide_eq_false (show ¬ r.lo ≤ x.num by omega)]; simp⟩
          have hlo2 : decide (x.num < r.lo) = true := by simpa using hlo
          clear HM2 hk1
          go_wp2
          go_quiet (fail)
          go_wp2
          go_ret
          exact ⟨by rw [HF.out]; rfl, below_drewN hB4 _⟩
        have hlo2 : decide (x.num < r.lo) = false := by simpa using hlo
        by_cases hhi : r.hi < x.num
        · have HF : Aside (R = false) := ⟨by rw [HM2.out, decide_eq_false (show ¬ x.num ≤ r.hi by omega)]; simp⟩
          have hhi2 : decide (r.hi < x.num) = true := by simpa using hhi
          clear HM2 hk1
          go_wp2
          go_quiet (fail)
          go_wp2
          go_ret
          exact ⟨by rw [HF.out]; rfl, below_drewN hB4 _⟩
        have hhi2 : decide (r.hi < x.num) = false := by simpa using hhi
        have HX : Aside (R = (l.drop (k + 1)).all fun r => r.met e) := ⟨by rw [HM2.out, decide_eq_true (show r.lo ≤ x.num by omega), decide_eq_true (show x.num ≤ r.hi by omega), decide_eq_true hk1]; simp⟩
        clear HM2 hk1
        go_wp2
        go_quiet (fail)
        go_wp2
        go_roundw
        case rel => exact ⟨k + 1, by go_num, by omega, HX, below_drewN hB4 _⟩
        case measure => simp [intOf]; omega
      · have HF : Aside (R = false) := ⟨by rw [HM2.out]; simp [hk1]⟩
        have hk1b : (x.kind != 1) = true := by simpa using hk1
        clear HM2 hk1
        go_wp2
        go_quiet (fail)
        go_wp2
        go_ret
        exact ⟨by rw [HF.out]; rfl, below_drewN hB4 _⟩
    · have HF : Aside (R = true) := ⟨by
        have : l.drop k = [] := List.drop_eq_nil_of_le (by rw [← HN.out]; omega)
        rw [HE.out, this]; rfl⟩
      clear HE hl he
      go_wp2
      go_ret
      exact ⟨by rw [HF.out]; rfl, hB⟩
end Go.Proofs.Ytamaihlpdebekaa
