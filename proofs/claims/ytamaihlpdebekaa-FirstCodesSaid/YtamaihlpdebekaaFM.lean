/- first: Encode whole; what right states are. -/
import Derived.Test.YtamaihlpdebekaaFL
namespace Go.Proofs.Ytamaihlpdebekaa
open Go.RowKit
set_option linter.unusedVariables false
set_option linter.unusedSimpArgs false

theorem subsOk_mem {links : List Int} : ∀ {last : Int} {l : List FSub}, subsOk links last l = true → ∀ s ∈ l, s.ok links = true ∧ 1 + last ≤ s.id ∧ s.id ≤ 65535
  | _, [], _, s, hs => by cases hs
  | last, t :: l, h, s, hs => by
    rw [subsOk, Bool.and_eq_true, Bool.and_eq_true] at h
    obtain ⟨⟨h1, h2⟩, h3⟩ := h
    have h1' := inB_true h1
    rcases List.mem_cons.1 hs with rfl | hs
    · exact ⟨h2, by omega, by omega⟩
    · have := subsOk_mem h3 s hs
      exact ⟨this.1, by omega, this.2.2⟩
theorem linksOk_mem : ∀ {last : Int} {l : List Int}, linksOk last l = true → ∀ n ∈ l, 1 + last ≤ n ∧ n ≤ 65535
  | _, [], _, s, hs => by cases hs
  | last, t :: l, h, s, hs => by
    rw [linksOk, Bool.and_eq_true] at h
    obtain ⟨h1, h3⟩ := h
    have h1' := inB_true h1
    rcases List.mem_cons.1 hs with rfl | hs
    · omega
    · have := linksOk_mem h3 s hs
      omega
theorem ok_ranges {links : List Int} {s : FSub} (h : s.ok links = true) : s.ranges.length ≤ 12 ∧ s.from_ ∈ links ∧ ∀ r ∈ s.ranges, 1 ≤ (r.name.size : Int) ∧ (r.name.size : Int) ≤ 16 ∧ -2147483648 ≤ r.lo ∧ r.lo ≤ 2147483647 ∧ -2147483648 ≤ r.hi ∧ r.hi ≤ 2147483647 := by
  simp only [FSub.ok, Bool.and_eq_true, decide_eq_true_eq, Bool.not_eq_true', List.any_eq_false, List.contains_iff_mem] at h
  obtain ⟨⟨h1, h2⟩, h3⟩ := h
  refine ⟨h1, h3, fun r hr => ?_⟩
  have := h2 r hr
  simp only [Rng.wrong, inB, Bool.or_eq_true, Bool.not_eq_true', Bool.and_eq_false_iff, decide_eq_false_iff_not, not_or] at this
  omega
theorem right_facts {f : First} (h : f.right = true) : f.links.length ≤ 16 ∧ f.subs.length ≤ 64 ∧ linksOk 0 f.links = true ∧ subsOk f.links 0 f.subs = true := by
  simp only [First.right, Bool.and_eq_true, decide_eq_true_eq] at h
  exact ⟨h.1.2, h.2, h.1.1.1, h.1.1.2⟩

set_option maxHeartbeats 1000000 in
theorem encode10 (vL vS : Value) (f : First) (w : World) (hL : enI64.Rd w vL f.links) (hS : enSub.Rd w vS f.subs) (hnL : f.links.length ≤ maxLen) (hnS : f.subs.length ≤ maxLen) :
    Calls Try.prog 10 #[.agg #[vL, vS]] w (EncPost w f) := by
  cases hrt : f.right
  · obtain ⟨AL, cL, rfl, hlL⟩ := hL.form
    obtain ⟨AS, cS, rfl, hlS⟩ := hS.form
    have HP : EncPost w f = fun e w' => ∃ v, e = .returned (.tuple #[v, .bool false]) ∧ OwnB 5 w' w.heap.size v [] ∧ Below w.heap.size w w' := by
      funext e w'
      unfold EncPost
      rw [hrt, if_neg (by decide)]
    rw [HP]
    clear HP
    have hB0 : Below w.heap.size w (w.alloc (.cells #[.slice AL f.links.length cL, .slice AS f.subs.length cS] 25)) := (Below.refl _ _).alloc (Nat.le_refl _) _
    have hright := right15 _ _ f _ (hL.below hB0) (hS.below hB0) hnL hnS
    rw [hrt] at hright
    clear hL hS hrt hnL hnS
    generalize f.links.length = nL at *
    generalize f.subs.length = nS at *
    go_enter Try.func10, Try.ntmps10
    go_wp2_with fail
    refine hright.mono ?_
    rintro e w1 ⟨rfl, hb1⟩
    go_wp2
    go_ret2
    exact ⟨_, rfl, World.ownsRow_nil _ _ _ _, below_step hB0 hb1⟩
  · obtain ⟨h16, h64, hl, hs⟩ := right_facts hrt
    obtain ⟨AL, cL, rfl, hlL⟩ := hL.form
    obtain ⟨AS, cS, rfl, hlS⟩ := hS.form
    obtain ⟨links, subs⟩ := f
    exact encode10_yes AL cL links.length AS cS subs.length links subs w hL hS h16 h64 ⟨rfl⟩ ⟨rfl⟩ (fun s hs' => (ok_ranges (subsOk_mem hs s hs').1).1) (fun s hs' r hr => by have := (ok_ranges (subsOk_mem hs s hs').1).2.2 r hr; omega) hrt
end Go.Proofs.Ytamaihlpdebekaa
