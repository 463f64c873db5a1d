/- first: Encode. -/
import Derived.Test.YtamaihlpdebekaaFI
namespace Go.Proofs.Ytamaihlpdebekaa
open Go.RowKit
set_option linter.unusedVariables false
set_option linter.unusedSimpArgs false

theorem Try.info5 : (Try.prog.info? 5).map (fun i => (i.zero, i.size, i.bytes)) = some (some (.int .u8 0), 1, 1) := by kernel_rfl

def b8 (n : Int) : UInt8 := UInt8.ofNat (n % 256).toNat
theorem b8_val (n : Int) : ((b8 n).toNat : Int) = n % 256 := by
  unfold b8
  rw [UInt8.toNat_ofNat']
  omega
theorem b8_u8v (n : Int) : u8v (b8 n) = .int .u8 (n % 256) := by rw [u8v, b8_val]

/-- What a call hands back that writes bytes behind a row of its caller's own. -/
def GrewB (w : World) (base : Nat) (v : Value) (bs : List UInt8) (e : Ending) (w' : World) : Prop :=
  ∃ v', e = .returned v' ∧ OwnB 5 w' base v' bs ∧ w.grownBy w' v.ownBlock ∧ (v'.ownBlock = v.ownBlock ∨ ∃ k, v'.ownBlock = some k ∧ w.heap.size ≤ k)

set_option maxHeartbeats 400000 in
theorem two23 (v : Value) (bs : List UInt8) (base : Nat) (n : Int) (w : World) (h : OwnB 5 w base v bs) (hb : base ≤ w.heap.size) (hl : bs.length ≤ 1000000) :
    Calls Try.prog 23 #[v, .int .i64 n] w (GrewB w base v (bs ++ [b8 (n / 256), b8 n])) := by
  obtain ⟨R, hR⟩ : ∃ R, R = bs ++ [b8 (n / 256), b8 n] := ⟨_, rfl⟩
  rw [← hR]
  have HR := Aside.mk hR
  clear hR
  unfold OwnB at h
  obtain ⟨A, c, rfl, hc⟩ := own_slice h
  obtain ⟨m, hm⟩ : ∃ m, m = bs.length := ⟨_, rfl⟩
  rw [← hm] at h hc hl ⊢
  have HM := Aside.mk hm
  clear hm
  go_enter Try.func23, Try.ntmps23
  go_wp2_with (at_builtin; refine app_lit rfl _ _ 26 rfl 5 (.int .u8 0) 1 1 Try.underlying26 Try.info5 rfl (by decide) (by decide) base _ _ _ rfl (h.alloc _) w.heap.size 2 2 #[.int .u8 ((n / 256) % 256), .int .u8 (n % 256)] rfl (Blk.new _ _ _) rfl (by simp [Value.oneCell']) (by decide) (by omega) (by simp; omega) ?_; intro g cap w3 hown3 hgr hat hlt3)
  go_ret
  rw [HR.out]
  refine ⟨_, rfl, ?_, (World.grownBy_alloc w _ _).trans hgr, hat.imp (fun e => e.symm) (fun e => ⟨g, rfl, by simp at e; omega⟩)⟩
  unfold OwnB
  rw [List.map_append, List.length_append, ← HM.out, List.map_cons, List.map_cons, List.map_nil, b8_u8v, b8_u8v]
  exact hown3

theorem GrewB.trans {w w1 w2 : World} {base : Nat} {v v1 v2 : Value} {bs : List UInt8} (hg1 : w.grownBy w1 v.ownBlock) (ha1 : v1.ownBlock = v.ownBlock ∨ ∃ k, v1.ownBlock = some k ∧ w.heap.size ≤ k)
    (ho2 : OwnB 5 w2 base v2 bs) (hg2 : w1.grownBy w2 v1.ownBlock) (ha2 : v2.ownBlock = v1.ownBlock ∨ ∃ k, v2.ownBlock = some k ∧ w1.heap.size ≤ k) : GrewB w base v bs (.returned v2) w2 := by
  refine ⟨v2, rfl, ho2, grown_on hg1 hg2 (fun b hb => ?_), ?_⟩
  · rcases ha1 with e | ⟨k, e, hk⟩
    · exact .inl (e.symm.trans hb)
    · rw [e] at hb; cases hb; exact .inr hk
  · rcases ha2 with e | ⟨k, e, hk⟩
    · rcases ha1 with e1 | ⟨k1, e1, hk1⟩
      · exact .inl (e.trans e1)
      · exact .inr ⟨k1, e.trans e1, hk1⟩
    · exact .inr ⟨k, e, Nat.le_trans hg1.size hk⟩

set_option maxHeartbeats 1000000 in
theorem four24 (v : Value) (bs : List UInt8) (base : Nat) (n : Int) (B : Nat) (w : World) (h : OwnB 5 w base v bs) (hb : base ≤ w.heap.size) (hl : bs.length ≤ 900000) (hB : B < base) (hc : w.cell? ⟨B, 0, none⟩ = some (.func (.func 23) #[] #[])) :
    Calls Try.prog 24 #[v, .int .i64 n, .pointer (some ⟨B, 0, none⟩)] w (GrewB w base v (bs ++ [b8 (n / 65536 / 256), b8 (n / 65536), b8 (n / 256), b8 n])) := by
  obtain ⟨R, hR⟩ : ∃ R, R = bs ++ [b8 (n / 65536 / 256), b8 (n / 65536), b8 (n / 256), b8 n] := ⟨_, rfl⟩
  rw [← hR]
  have HR := Aside.mk hR
  clear hR
  have h1 := two23 v bs base (n / 65536) w.drew (World.ownsRow.drew h) hb (by omega)
  have h2 := fun v1 w1 (ho : OwnB 5 w1 base v1 (bs ++ [b8 (n / 65536 / 256), b8 (n / 65536)])) (hb : base ≤ w1.heap.size) => two23 v1 _ base n w1 ho hb (by simp; omega)
  have hBw : B < w.drew.heap.size := by show B < w.heap.size; omega
  have hBv := own_ne_lt h hB
  clear h
  go_enter Try.func24, Try.ntmps24
  go_wp2_with fail
  go_region_held3 (fun w' => w'.cell? ⟨B, 0, none⟩ = some (.func (.func 23) #[] #[]))
    (first | go_keep | exact hk2 | exact hk1)
    (first
      | (go_at_call_of 23 v; refine h1.mono ?_; rintro e w1 ⟨v1, rfl, ho1, hg1, ha1⟩; have hk1 : w1.cell? ⟨B, 0, none⟩ = some (.func (.func 23) #[] #[]) := hg1.cell (a := ⟨B, 0, none⟩) hc hBv)
      | (go_at_call_of 23 (Value.int .i64 n); refine (h2 _ _ ho1 (Nat.le_trans hb hg1.size)).mono ?_; rintro e w2 ⟨v2, rfl, ho2, hg2, ha2⟩; have hk2 : w2.cell? ⟨B, 0, none⟩ = some (.func (.func 23) #[] #[]) := hg2.cell (a := ⟨B, 0, none⟩) hk1 (own_ne_lt ho1 hB)))
  go_wp2
  go_ret
  rw [HR.out]
  have hT := GrewB.trans (grown_undrew hg1) ha1 ho2 hg2 ha2
  rw [show bs ++ [b8 (n / 65536 / 256), b8 (n / 65536), b8 (n / 256), b8 n] = bs ++ [b8 (n / 65536 / 256), b8 (n / 65536)] ++ [b8 (n / 256), b8 n] by simp]
  exact hT
end Go.Proofs.Ytamaihlpdebekaa
