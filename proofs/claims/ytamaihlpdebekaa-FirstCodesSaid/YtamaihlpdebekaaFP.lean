/- first: what the rows' arguments read as. -/
import Derived.Test.YtamaihlpdebekaaFO
import Derived.Test.YtamaihlpdebekaaRowIn
namespace Go.Proofs.Ytamaihlpdebekaa
open Go.RowKit
set_option linter.unusedVariables false
set_option linter.unusedSimpArgs false

theorem opens3 : Opens Try.prog 3 enI64 (fun n => (Lit.int .i64 n).wf = true) := opens_int Try.underlying3
theorem opens22 : Opens Try.prog 22 (En.sl enI64) (fun xs => xs.length ≤ maxLen ∧ xs.length ≤ 17592186043904) :=
  (opens_sl Try.underlying22 (by kernel_rfl) (by decide) opens3).conv fun h hg => ⟨_, h, hg.1, by
    have := hg.2.1
    rw [show Try.prog.bytesOf 3 = 8 by kernel_rfl] at this
    unfold reachBytes at this
    omega⟩
theorem opens26 : Opens Try.prog 26 (En.sl enU8) (fun xs => xs.length ≤ maxLen) :=
  (opens_sl (E := En.flat 1 (fun n => [.int .u8 n]) (fun _ => rfl)) Try.underlying26 (by kernel_rfl) (by decide) (opens_int Try.underlying5)).conv fun {w S x cs} h hg => by
    obtain ⟨v, rfl, A, c, rfl, hl, hx⟩ := h
    refine ⟨x.map fun n => UInt8.ofNat n.toNat, ⟨_, rfl, A, c, by rw [List.length_map], by rw [List.length_map]; exact hl, fun i y hi => ?_⟩, by rw [List.length_map]; exact hg.1⟩
    rw [List.getElem?_map] at hi
    obtain ⟨n, hn, rfl⟩ : ∃ n, x[i]? = some n ∧ UInt8.ofNat n.toNat = y := by
      cases hy : x[i]? with
      | none => rw [hy] at hi; cases hi
      | some p => rw [hy] at hi; exact ⟨p, rfl, by simpa using hi⟩
    obtain ⟨a, cs, ha, hS, hr, hc⟩ := hx i n hn
    have hwf := hg.2.2 n (List.mem_of_getElem? hn)
    obtain ⟨h0, h1⟩ : 0 ≤ n ∧ n ≤ 255 := by simpa [Lit.wf, IntKind.min, IntKind.max, IntKind.bits, IntKind.signed] using hwf
    obtain rfl : cs = [.int .u8 n] := hr
    refine ⟨a, _, ha, hS, ?_, hc⟩
    show [Value.int .u8 n] = [u8v (UInt8.ofNat n.toNat)]
    obtain ⟨m, rfl⟩ := Int.eq_ofNat_of_zero_le h0
    have hm : m < 256 := by omega
    rw [u8v, Int.toNat_natCast, UInt8.toNat_ofNat_of_lt' hm]
theorem opens46 : Opens Try.prog 46 enRng (fun _ => True) :=
  (opens_struct3 Try.underlying46 (opens_str Try.underlying9) opens3 opens3 ⟨rfl, rfl, rfl, by kernel_rfl, by kernel_rfl, by kernel_rfl, by kernel_rfl⟩).conv fun {w S x cs} h hg => by
    obtain ⟨_, _, rfl, rfl, _, _, rfl, rfl, rfl⟩ := h
    exact ⟨⟨x.1, x.2.1, x.2.2⟩, rfl, trivial⟩
theorem opens37 : Opens Try.prog 37 (En.sl enRng) (fun xs => xs.length ≤ maxLen ∧ xs.length ≤ 4398046511103) :=
  (opens_sl Try.underlying37 (by kernel_rfl) (by decide) opens46).conv fun h hg => ⟨_, h, hg.1, by
    have := hg.2.1
    rw [show Try.prog.bytesOf 46 = 32 by kernel_rfl] at this
    unfold reachBytes at this
    omega⟩
theorem opens48 : Opens Try.prog 48 (En.flat 3 (fun v : GVal => [.int .i64 v.kind, .int .i64 v.num, .string v.text]) (fun _ => rfl)) (fun _ => True) :=
  (opens_struct3 Try.underlying48 opens3 opens3 (opens_str Try.underlying9) ⟨rfl, rfl, rfl, by kernel_rfl, by kernel_rfl, by kernel_rfl, by kernel_rfl⟩).conv fun {w S x cs} h hg => by
    obtain ⟨_, _, rfl, rfl, _, _, rfl, rfl, rfl⟩ := h
    exact ⟨⟨x.1, x.2.1, x.2.2⟩, rfl, trivial⟩
theorem opens50 : Opens Try.prog 50 enAttr (fun _ => True) :=
  (opens_struct2 Try.underlying50 (opens_str Try.underlying9) opens48 ⟨rfl, rfl, by kernel_rfl, by kernel_rfl, by kernel_rfl⟩).conv fun {w S x cs} h hg => by
    obtain ⟨_, _, rfl, rfl, rfl⟩ := h
    exact ⟨⟨x.1, x.2⟩, rfl, trivial⟩
theorem opens36 : Opens Try.prog 36 (En.sl enAttr) (fun xs => xs.length ≤ maxLen) :=
  (opens_sl Try.underlying36 (by kernel_rfl) (by decide) opens50).conv fun h hg => ⟨_, h, hg.1⟩
theorem opens40 : Opens Try.prog 40 enSub (fun s => s.ranges.length ≤ maxLen) :=
  (opens_struct3 Try.underlying40 opens3 opens3 opens37 ⟨rfl, rfl, rfl, by kernel_rfl, by kernel_rfl, by kernel_rfl, by kernel_rfl⟩).conv fun {w S x cs} h hg => by
    obtain ⟨_, _, rfl, rfl, _, _, rfl, rfl, v, rfl, hs⟩ := h
    exact ⟨⟨x.1, x.2.1, x.2.2⟩, enSub_make hs, hg.2.2.1⟩
theorem opens23 : Opens Try.prog 23 (En.sl enSub) (fun xs => xs.length ≤ maxLen ∧ ∀ s ∈ xs, s.ranges.length ≤ maxLen) :=
  (opens_sl Try.underlying23 (by kernel_rfl) (by decide) opens40).conv fun h hg => ⟨_, h, hg.1, hg.2.2⟩

/-- A state that fits. -/
structure Fits (f : First) : Prop where
  l : f.links.length ≤ maxLen
  l2 : f.links.length ≤ 17592186043904
  s : f.subs.length ≤ maxLen
  r : ∀ s ∈ f.subs, s.ranges.length ≤ maxLen
theorem opens25 : Opens Try.prog 25 (En.pair (En.sl enI64) (En.sl enSub)) (fun x => Fits ⟨x.1, x.2⟩) :=
  (opens_struct2 Try.underlying25 opens22 opens23 ⟨rfl, rfl, by kernel_rfl, by kernel_rfl, by kernel_rfl⟩).conv fun {w S x cs} h hg => ⟨x, h, hg.1.1, hg.1.2, hg.2.1, hg.2.2⟩

section
variable {H : Type} {enc : TypeId × Value → H} {W : World} {v : Value} {d : DataW H} {p : List MemPlace} {r : Reach} {base : Nat}
theorem arg25 (hv : Value.okWide Try.prog W r base 25 v) (h : DataW.Trod enc Try.prog W 0 (fun _ => true) true 25 v d p) (hw : ∀ n ∈ d.weights Try.prog 25, n ≤ reachBytes) :
    ∃ vL vS f, v = .agg #[vL, vS] ∧ enI64.Rd W vL f.links ∧ enSub.Rd W vS f.subs ∧ Fits f := by
  obtain ⟨cs, x, rfl, ⟨_, _, he, ⟨vL, rfl, hL⟩, vS, rfl, hS⟩, hg⟩ := arg_agg opens25 Try.underlying25 hv h hw
  obtain rfl := arr_of he
  exact ⟨vL, vS, ⟨x.1, x.2⟩, rfl, hL, hS, hg⟩
theorem arg46 (hv : Value.okWide Try.prog W r base 46 v) (h : DataW.Trod enc Try.prog W 0 (fun _ => true) true 46 v d p) (hw : ∀ n ∈ d.weights Try.prog 46, n ≤ reachBytes) :
    ∃ x : Rng, v = .agg #[.string x.name, .int .i64 x.lo, .int .i64 x.hi] := by
  obtain ⟨cs, x, rfl, he, _⟩ := arg_agg opens46 Try.underlying46 hv h hw
  have he : cs.toList = x.cells := he
  obtain rfl := arr_of he
  exact ⟨x, rfl⟩
end
end Go.Proofs.Ytamaihlpdebekaa
