/- rosetteref15: Big. -/
import Derived.Test.YtamaihlpdebekaaFK
namespace Go.Proofs.Ytamaihlpdebekaa
open Go.RowKit
set_option linter.unusedVariables false
set_option linter.unusedSimpArgs false

/-- So many bytes of a number, the highest first. -/
def bigB (n : Int) : Nat → List UInt8
  | 0 => []
  | k + 1 => b8 (n / 256 ^ k) :: bigB n k
theorem bigB_len (n : Int) : ∀ k, (bigB n k).length = k
  | 0 => rfl
  | k + 1 => by rw [bigB, List.length_cons, bigB_len n k]

theorem shr_b8 (n : Int) (k : Nat) (hk : k ≤ 7) : IntKind.u64.wrap n / 2 ^ (8 * k) % 256 = n / 256 ^ k % 256 := by
  rw [IntKind.wrap_u64]
  rcases (by omega : k = 0 ∨ k = 1 ∨ k = 2 ∨ k = 3 ∨ k = 4 ∨ k = 5 ∨ k = 6 ∨ k = 7) with rfl | rfl | rfl | rfl | rfl | rfl | rfl | rfl <;> simp <;> omega
def MadeB (E : TypeId) (w : World) (bs : List UInt8) (e : Ending) (w' : World) : Prop := ∃ v, e = .returned v ∧ OwnB E w' w.heap.size v bs ∧ Below w.heap.size w w'

set_option maxHeartbeats 1000000 in
theorem big25 (n : Int) (size : Nat) (w : World) (hs : size ≤ 8) :
    Calls Try.prog 25 #[.int .i64 n, .int .i64 size] w (MadeB 5 w (bigB n size)) := by
  obtain ⟨R, hR⟩ : ∃ R, R = bigB n size := ⟨_, rfl⟩
  rw [← hR]
  have HR := Aside.mk hR
  clear hR
  have hB0 : Below w.heap.size w w := Below.refl _ _
  go_enter Try.func25, Try.ntmps25
  go_wp2
  go_loopw [5, 6] (fun v j wr => ∃ k : Nat, ∃ bs : List UInt8, j = .int .i64 ((k : Int) - 1) ∧ k ≤ size ∧ bs.length + k = size ∧ Aside (R = bs ++ bigB n k) ∧ OwnB 5 wr w.heap.size v bs ∧ Below w.heap.size w wr) (fun v j wr => (intOf j + 1).toNat)
  case atStart => exact ⟨size, [], by go_num, Nat.le_refl _, by simp, ⟨HR.out⟩, World.ownsRow_nil _ _ _ _, hB0⟩
  case round =>
    obtain ⟨k, bs, rfl, hk, hbk, HE, ho, hB⟩ := hrel
    by_cases hlt : 0 < k
    · obtain ⟨k, rfl⟩ : ∃ m, k = m + 1 := ⟨k - 1, by omega⟩
      have e1 : ((k + 1 : Nat) : Int) - 1 = k := by omega
      rw [e1]
      clear e1
      have HV : Aside ([Value.int .u8 (IntKind.u64.wrap n / 2 ^ (8 * k) % 256)] = [b8 (n / 256 ^ k)].map u8v) := ⟨by rw [List.map_cons, List.map_nil, b8_u8v, shr_b8 n k (by omega)]⟩
      go_wp2_with (at_builtin; refine app_lit rfl _ _ 26 rfl 5 (.int .u8 0) 1 1 Try.underlying26 Try.info5 rfl (by decide) (by decide) w.heap.size u5 bs.length _ rfl (World.ownsRow.alloc ho _) wr.heap.size 1 1 #[Value.int .u8 (IntKind.u64.wrap n / 2 ^ (8 * k) % 256)] rfl (Blk.new _ _ _) rfl (by simp [Value.oneCell']) (by decide) (by omega) (by have := hB.size; simp; omega) ?_; intro g cap w4 hown4 hgr4 hat hlt4)
      have ho4 : OwnB 5 w4 w.heap.size (.slice (some ⟨g, 0, none⟩) (bs.length + 1) cap) (bs ++ [b8 (n / 256 ^ k)]) := by
        unfold OwnB
        rw [List.map_append, List.length_append, ← HV.out]
        exact hown4
      have hB4 := (below_alloc hB (.cells #[Value.int .u8 (IntKind.u64.wrap n / 2 ^ (8 * k) % 256)] 5)).grown hgr4 (below_alloc hB _).size (own_bound ho)
      have HE2 : Aside (R = (bs ++ [b8 (n / 256 ^ k)]) ++ bigB n k) := ⟨by rw [HE.out, bigB]; simp⟩
      clear hown4 hgr4 hat hlt4 HV HE ho hB
      go_roundw
      case rel => exact ⟨k, _, by go_num, by omega, by simp; omega, HE2, ho4, hB4⟩
      case measure => simp [intOf]
    · obtain rfl : k = 0 := by omega
      have HF : Aside (bs = R) := ⟨by rw [HE.out, bigB, List.append_nil]⟩
      rw [HF.out] at ho
      clear HE HF
      go_wp2
      go_ret
      exact ⟨_, rfl, ho, hB⟩
end Go.Proofs.Ytamaihlpdebekaa
