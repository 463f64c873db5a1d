/- first: the leaves: in, wrong, slices.IndexFunc and ContainsFunc at ranges and subscriptions, slices.Contains at ints. -/
import Derived.Test.YtamaihlpdebekaaWords
namespace Go.Proofs.Ytamaihlpdebekaa
open Go.RowKit
set_option linter.unusedVariables false
set_option linter.unusedSimpArgs false

def inB (n a b : Int) : Bool := decide (a ≤ n) && decide (n ≤ b)

set_option maxHeartbeats 400000 in
theorem in_any (n a b : Int) (w : World) : Calls Try.prog 35 #[.int .i64 n, .int .i64 a, .int .i64 b] w fun e w' => e = .returned (.bool (inB n a b)) ∧ w = w' := by
  by_cases h : a ≤ n
  · have hfin : inB n a b = decide (n ≤ b) := by simp [inB, h]
    have HF := Aside.mk hfin
    clear hfin
    go_enter Try.func35, Try.ntmps35
    go_wp2
    go_ret
    exact ⟨by rw [HF.out]; rfl, rfl⟩
  · have hfin : inB n a b = false := by simp [inB, h]
    have HF := Aside.mk hfin
    clear hfin
    go_enter Try.func35, Try.ntmps35
    go_wp2
    go_ret
    exact ⟨by rw [HF.out]; rfl, rfl⟩

theorem in_yes (n a b : Int) (w : World) (h : inB n a b = true) : Calls Try.prog 35 #[.int .i64 n, .int .i64 a, .int .i64 b] w fun e w' => e = .returned (.bool true) ∧ w = w' := by
  have := in_any n a b w; rwa [h] at this
theorem in_no (n a b : Int) (w : World) (h : inB n a b = false) : Calls Try.prog 35 #[.int .i64 n, .int .i64 a, .int .i64 b] w fun e w' => e = .returned (.bool false) ∧ w = w' := by
  have := in_any n a b w; rwa [h] at this

structure Rng where
  name : ByteArray
  lo : Int
  hi : Int
def Rng.cells (r : Rng) : List Value := [.string r.name, .int .i64 r.lo, .int .i64 r.hi]
def enRng : En Rng := En.flat 3 Rng.cells (fun _ => rfl)
def Rng.wrong (r : Rng) : Bool := !(inB r.name.size 1 16) || !(inB r.lo (-2147483648) 2147483647) || !(inB r.hi (-2147483648) 2147483647)

set_option maxHeartbeats 400000 in
theorem wrong_any (nm : ByteArray) (lo hi : Int) (w : World) : Calls Try.prog 37 #[.agg #[.string nm, .int .i64 lo, .int .i64 hi]] w fun e w' => e = .returned (.bool (Rng.wrong ⟨nm, lo, hi⟩)) ∧ Below w.heap.size w w' := by
  have h35 := fun (a b c : Int) (W : World) => in_any a b c W
  unfold Rng.wrong
  have hW : Below w.heap.size w (w.alloc (.cells #[.string nm, .int .i64 lo, .int .i64 hi] 46)) := (Below.refl _ _).alloc (Nat.le_refl _) _
  cases h1 : inB (nm.size : Int) 1 16
  · have i1 := fun W => in_no nm.size 1 16 W h1
    clear h35 h1
    go_enter Try.func37, Try.ntmps37
    go_wp2_with (go_at_call 35; refine (i1 _).mono ?_; rintro e w' ⟨rfl, rfl⟩)
    go_ret
    exact ⟨rfl, hW⟩
  · have i1 := fun W => in_yes nm.size 1 16 W h1
    clear h1
    cases h2 : inB lo (-2147483648) 2147483647
    · have i2 := fun W => in_no lo (-2147483648) 2147483647 W h2
      clear h35 h2
      go_enter Try.func37, Try.ntmps37
      go_wp2_with fail
      refine (i1 _).mono ?_
      rintro e w' ⟨rfl, rfl⟩
      go_wp2_with fail
      refine (i2 _).mono ?_
      rintro e w' ⟨rfl, rfl⟩
      go_wp2
      go_ret
      exact ⟨rfl, hW⟩
    · have i2 := fun W => in_yes lo (-2147483648) 2147483647 W h2
      clear h2
      go_enter Try.func37, Try.ntmps37
      go_wp2_with fail
      refine (i1 _).mono ?_
      rintro e w' ⟨rfl, rfl⟩
      go_wp2_with fail
      refine (i2 _).mono ?_
      rintro e w' ⟨rfl, rfl⟩
      go_wp2_with fail
      refine (h35 hi (-2147483648) 2147483647 _).mono ?_
      rintro e w' ⟨rfl, rfl⟩
      go_wp2
      go_ret
      exact ⟨rfl, hW⟩
end Go.Proofs.Ytamaihlpdebekaa
