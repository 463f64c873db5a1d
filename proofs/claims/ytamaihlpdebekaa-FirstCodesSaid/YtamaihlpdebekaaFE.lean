/- event.Get; first: Meets. -/
import Derived.Test.YtamaihlpdebekaaFD
namespace Go.Proofs.Ytamaihlpdebekaa
open Go.RowKit
set_option linter.unusedVariables false
set_option linter.unusedSimpArgs false

structure GVal where
  kind : Int
  num : Int
  text : ByteArray
structure Attr where
  name : ByteArray
  val : GVal
def Attr.cells (a : Attr) : List Value := [.string a.name, .int .i64 a.val.kind, .int .i64 a.val.num, .string a.val.text]
def enAttr : En Attr := En.flat 4 Attr.cells (fun _ => rfl)
def GVal.agg (v : GVal) : Value := .agg #[.int .i64 v.kind, .int .i64 v.num, .string v.text]
def GVal.zero : GVal := ⟨0, 0, ⟨#[]⟩⟩
def strEq (a b : ByteArray) : Bool := a.toList == b.toList

theorem rdAttr_at {w : World} {A : Option Addr} {n c : Nat} {xs : List Attr} (h : enAttr.Rd w (.slice A n c) xs) (i : Nat) (hi : i < xs.length) :
    ∃ a, A = some a ∧ a.block < w.heap.size ∧ w.cell? (a.add (i * 4)) = some (.string xs[i].name) ∧ w.cell? ⟨(a.add (i * 4)).block, (a.add (i * 4)).off + 1, none⟩ = some (.int .i64 xs[i].val.kind) ∧ w.cell? ⟨(a.add (i * 4)).block, (a.add (i * 4)).off + 2, none⟩ = some (.int .i64 xs[i].val.num) ∧ w.cell? ⟨(a.add (i * 4)).block, (a.add (i * 4)).off + 3, none⟩ = some (.string xs[i].val.text) := by
  obtain ⟨a, cs, hA, ha, hr, hc⟩ := h.get i hi
  obtain rfl : cs = xs[i].cells := hr
  exact ⟨a, hA, ha, cells4 hc⟩

set_option maxHeartbeats 400000 in
theorem get1_any (a : Attr) (B : Nat) (nm : ByteArray) (w : World) (hB : B < w.heap.size) (hc : w.cell? ⟨B, 0, none⟩ = some (.string nm)) :
    Calls Try.prog 52 #[.agg #[.string a.name, .int .i64 a.val.kind, .int .i64 a.val.num, .string a.val.text], .pointer (some ⟨B, 0, none⟩)] w fun e w' => e = .returned (.bool (strEq a.name nm)) ∧ Below w.heap.size w w' := by
  unfold strEq
  have hne : B ≠ w.heap.size := by omega
  go_enter Try.func52, Try.ntmps52
  go_wp2
  go_ret
  exact ⟨rfl, (Below.refl _ _).alloc (Nat.le_refl _) _⟩

def getAttr (e : List Attr) (nm : ByteArray) : Option Attr := e.find? fun a => strEq a.name nm
def getVal (e : List Attr) (nm : ByteArray) : GVal := ((getAttr e nm).map (·.val)).getD GVal.zero
def getIs (e : List Attr) (nm : ByteArray) : Bool := (getAttr e nm).isSome

set_option maxHeartbeats 400000 in
theorem get41 (v : Value) (e : List Attr) (nm : ByteArray) (w : World) (h : enAttr.Rd w v e) (hn : e.length ≤ maxLen) :
    Calls Try.prog 41 #[v, .string nm] w fun r w' => r = .returned (.tuple #[(getVal e nm).agg, .bool (getIs e nm)]) ∧ Below w.heap.size w w' := by
  obtain ⟨R, hR⟩ : ∃ R, R = Value.tuple #[(getVal e nm).agg, .bool (getIs e nm)] := ⟨_, rfl⟩
  rw [← hR]
  have HR := Aside.mk hR
  clear hR
  obtain ⟨A, c, rfl, hl⟩ := h.form
  obtain ⟨n, hN⟩ : ∃ n, n = e.length := ⟨_, rfl⟩
  rw [← hN] at hn hl h ⊢
  have HN := Aside.mk hN
  clear hN
  have hB0 : Below w.heap.size w (w.alloc (.cells #[.string nm] 9)) := (Below.refl _ _).alloc (Nat.le_refl _) _
  have hB1 : Below w.heap.size w ((w.alloc (.cells #[.string nm] 9)).alloc (.cells #[.int .i64 0, .int .i64 0, .string ⟨#[]⟩] 48)) := below_alloc hB0 _
  have z : Attr := ⟨⟨#[]⟩, GVal.zero⟩
  have hix := ixAttr A n c (fun i => strEq (e.getD i z).name nm) 52 #[.pointer (some ⟨w.heap.size, 0, none⟩)] _ hn (enters Try.func52 (by kernel_rfl) rfl)
    (fun i hi => by
      have hi' : i < e.length := by rw [← HN.out]; exact hi
      obtain ⟨a, hA, ha, h0, h1, h2, h3⟩ := rdAttr_at (h.below hB1) i hi'
      rw [show e.getD i z = e[i] by simp [hi']]
      exact ⟨a, _, _, _, _, hA, ha, h0, h1, h2, h3, fun W hW => get1_any _ _ nm W (by have := hW.size; simp at this; omega) (by
        rw [hW.cell (p := ⟨w.heap.size, 0, none⟩) (by simp; omega)]
        go_simp)⟩)
  have hfl := findIx_list (fun a => strEq a.name nm) e (fun i => strEq (e.getD i z).name nm) 0 (fun i hi => by simp [hi])
  rw [← HN.out] at hfl
  generalize findIx (fun i => strEq (e.getD i z).name nm) 0 n = q at *
  have hq : q = -1 ∧ getAttr e nm = none ∨ ∃ j x, j < n ∧ q = (j : Int) ∧ e[j]? = some x ∧ getAttr e nm = some x := by
    rcases hfl with ⟨h1, h2⟩ | ⟨j, x, hj, h1, h2, h3⟩
    · exact .inl ⟨h2, h1⟩
    · exact .inr ⟨j, x, hj, by simpa using h1, h2, h3⟩
  clear hfl
  rcases hq with ⟨rfl, hq⟩ | ⟨j, x, hj, rfl, hx, hq⟩
  · have HF : Aside (R = .tuple #[.agg #[.int .i64 0, .int .i64 0, .string ⟨#[]⟩], .bool false]) := ⟨by rw [HR.out, getVal, getIs, hq]; rfl⟩
    clear HR hq h HN
    go_enter Try.func41, Try.ntmps41
    go_wp2_with fail
    refine hix.mono ?_
    rintro e w2 ⟨rfl, hb⟩
    obtain ⟨hc, hf⟩ := bcell hb
    go_wp2
    refine bodyPost_ret (v := .tuple #[.agg #[.int .i64 0, .int .i64 0, .string ⟨#[]⟩], .bool false]) (by simp [results, Try.results41, go_sem, hc, hf]) rfl ⟨by rw [HF.out], ?_⟩
    have hw2 := below_step hB1 hb
    exact below_set (below_set (below_set hw2 (by omega)) (by omega)) (by omega)
  · have HF : Aside (R = .tuple #[.agg #[.int .i64 x.val.kind, .int .i64 x.val.num, .string x.val.text], .bool true]) := ⟨by rw [HR.out, getVal, getIs, hq]; rfl⟩
    have hj' : j < e.length := by rw [← HN.out]; exact hj
    have hxe : x = e[j] := by rw [List.getElem?_eq_getElem hj'] at hx; injection hx with hx; exact hx.symm
    obtain ⟨a, rfl, hab, h0, h1, h2, h3⟩ := rdAttr_at h j hj'
    rw [← hxe] at h0 h1 h2 h3
    clear HR hq h HN hx hxe hj' h0
    go_enter Try.func41, Try.ntmps41
    go_wp2_with fail
    refine hix.mono ?_
    rintro e w2 ⟨rfl, hb⟩
    obtain ⟨hc, hf⟩ := bcell hb
    have hw2 := below_step hB1 hb
    have hs := hw2.size
    have g1 : w2.cell? ⟨(a.add (j * 4)).block, (a.add (j * 4)).off + 1, none⟩ = some (.int .i64 x.val.kind) := (hw2.cell (by rw [block_of_add]; exact hab)).trans h1
    have g2 : w2.cell? ⟨(a.add (j * 4)).block, (a.add (j * 4)).off + 2, none⟩ = some (.int .i64 x.val.num) := (hw2.cell (by rw [block_of_add]; exact hab)).trans h2
    have g3 : w2.cell? ⟨(a.add (j * 4)).block, (a.add (j * 4)).off + 3, none⟩ = some (.string x.val.text) := (hw2.cell (by rw [block_of_add]; exact hab)).trans h3
    clear h1 h2 h3
    go_wp2
    refine bodyPost_ret (v := .tuple #[.agg #[.int .i64 x.val.kind, .int .i64 x.val.num, .string x.val.text], .bool true]) (by simp [results, Try.results41, go_sem, hc, hf]) rfl ⟨by rw [HF.out], ?_⟩
    exact below_set (below_set (below_set hw2 (by omega)) (by omega)) (by omega)

def Rng.met (e : List Attr) (r : Rng) : Bool := decide ((getVal e r.name).kind = 1) && decide ((getVal e r.name).text.toList = []) && inB (getVal e r.name).num r.lo r.hi

set_option maxHeartbeats 400000 in
/-- The closure of Meets: does an event not meet a range? -/
theorem meets1 (r : Rng) (B : Nat) (v : Value) (e : List Attr) (w : World) (hB : B < w.heap.size) (hc : w.cell? ⟨B, 0, none⟩ = some v) (h : enAttr.Rd w v e) (hn : e.length ≤ maxLen) :
    Calls Try.prog 40 #[.agg #[.string r.name, .int .i64 r.lo, .int .i64 r.hi], .pointer (some ⟨B, 0, none⟩)] w fun x w' => x = .returned (.bool (!r.met e)) ∧ Below w.heap.size w w' := by
  obtain ⟨R, hR⟩ : ∃ R, R = !r.met e := ⟨_, rfl⟩
  rw [← hR]
  have HR := Aside.mk hR
  clear hR
  have hB0 : Below w.heap.size w (w.alloc (.cells #[.string r.name, .int .i64 r.lo, .int .i64 r.hi] 46)) := (Below.refl _ _).alloc (Nat.le_refl _) _
  have hget := get41 v e r.name _ (h.below hB0) hn
  have h35 := fun W => in_any (getVal e r.name).num r.lo r.hi W
  obtain ⟨x, hx⟩ : ∃ x, x = getVal e r.name := ⟨_, rfl⟩
  have HX := Aside.mk hx
  rw [← hx] at hget h35
  clear hx
  obtain ⟨A, c, rfl, hl⟩ := h.form
  clear h
  have hne : B ≠ w.heap.size := by omega
  unfold GVal.agg at hget
  by_cases h1 : x.kind = 1
  · by_cases h2 : x.text.toList = []
    · have HF : Aside (R = !inB x.num r.lo r.hi) := ⟨by rw [HR.out, Rng.met, ← HX.out, decide_eq_true h1, decide_eq_true h2]; rfl⟩
      clear HR HX
      generalize inB x.num r.lo r.hi = b at *
      go_enter Try.func40, Try.ntmps40
      go_wp2_with fail
      refine hget.mono ?_
      rintro e w2 ⟨rfl, hb⟩
      obtain ⟨hc2, hf2⟩ := bcell hb
      have hs : w.heap.size < w2.heap.size := by have := hb.size; simp at this; omega
      have hs' : w.heap.size ≠ w2.heap.size := by omega
      have hw2 := below_step hB0 hb
      go_wp2_with fail
      refine (h35 _).mono ?_
      rintro e w' ⟨rfl, rfl⟩
      go_wp2
      go_ret
      exact ⟨by rw [HF.out]; rfl, below_alloc hw2 _⟩
    · have HF : Aside (R = true) := ⟨by rw [HR.out, Rng.met, ← HX.out, decide_eq_false h2, Bool.and_false, Bool.false_and]; rfl⟩
      clear HR HX h35
      go_enter Try.func40, Try.ntmps40
      go_wp2_with fail
      refine hget.mono ?_
      rintro e w2 ⟨rfl, hb⟩
      have hw2 := below_step hB0 hb
      go_wp2
      go_ret
      exact ⟨by rw [HF.out]; rfl, below_alloc hw2 _⟩
  · have HF : Aside (R = true) := ⟨by rw [HR.out, Rng.met, ← HX.out, decide_eq_false h1, Bool.false_and, Bool.false_and]; rfl⟩
    clear HR HX h35
    have h1b : (x.kind != 1) = true := by simpa using h1
    clear h1
    go_enter Try.func40, Try.ntmps40
    go_wp2_with fail
    refine hget.mono ?_
    rintro e w2 ⟨rfl, hb⟩
    have hw2 := below_step hB0 hb
    go_wp2
    go_ret
    exact ⟨by rw [HF.out]; rfl, below_alloc hw2 _⟩

def fmeets (l : List Rng) (e : List Attr) : Bool := l.all fun r => r.met e

set_option maxHeartbeats 400000 in
theorem meets18 (vl ve : Value) (l : List Rng) (e : List Attr) (w : World) (hl : enRng.Rd w vl l) (he : enAttr.Rd w ve e) (hnl : l.length ≤ maxLen) (hne : e.length ≤ maxLen) :
    Calls Try.prog 18 #[vl, ve] w fun x w' => x = .returned (.bool (fmeets l e)) ∧ Below w.heap.size w w' := by
  obtain ⟨R, hR⟩ : ∃ R, R = fmeets l e := ⟨_, rfl⟩
  rw [← hR]
  have HR := Aside.mk hR
  clear hR
  obtain ⟨A, c, rfl, hlc⟩ := hl.form
  obtain ⟨Ae, ce, rfl, hlce⟩ := he.form
  have hB0 : Below w.heap.size w (w.alloc (.cells #[.slice Ae e.length ce] 36)) := (Below.refl _ _).alloc (Nat.le_refl _) _
  have z : Rng := ⟨⟨#[]⟩, 0, 0⟩
  have hix := anyRng A l.length c (fun i => !(l.getD i z).met e) 40 #[.pointer (some ⟨w.heap.size, 0, none⟩)] _ hnl (enters Try.func40 (by kernel_rfl) rfl)
    (fun i hi => by
      obtain ⟨a, hA, ha, h0, h1, h2⟩ := rdRng_at (hl.below hB0) i hi
      rw [show l.getD i z = l[i] by simp [hi]]
      exact ⟨a, _, _, _, hA, ha, h0, h1, h2, fun W hW => meets1 _ _ _ e W (by have := hW.size; simp at this; omega) (by
        rw [hW.cell (p := ⟨w.heap.size, 0, none⟩) (by simp)]
        go_simp) ((he.below hB0).below hW) hne⟩)
  rw [anyIx_list (fun r => !r.met e) l _ 0 (fun i hi => by simp [hi])] at hix
  have HF : Aside (R = !(l.any fun r => !r.met e)) := ⟨by rw [HR.out, fmeets, List.all_eq_not_any_not]⟩
  generalize (l.any fun r => !r.met e) = b at *
  clear HR hl he hnl hne
  generalize l.length = n at *
  generalize e.length = m at *
  go_enter Try.func18, Try.ntmps18
  go_wp2_with fail
  refine hix.mono ?_
  rintro e w2 ⟨rfl, hb⟩
  go_wp2
  go_ret
  exact ⟨by rw [HF.out]; rfl, below_step hB0 hb⟩
end Go.Proofs.Ytamaihlpdebekaa
