/- append of bytes onto the call's own bytes. No program in it. -/
import Derived.Test.YtamaihlpdebekaaApps
namespace Go.Proofs.Ytamaihlpdebekaa
open Go.RowKit
set_option linter.unusedVariables false
set_option linter.unusedSimpArgs false

section
variable {P : Program} {w : World} {ops : Array Oper} {rest : List Oper} {o : Oper} {a : Act} {Q : Exit → Act → World → Prop}
theorem flat_u8 (xs : List UInt8) : xs.flatMap (fun b => [u8v b]) = xs.map u8v := by rw [List.map_eq_flatMap]
theorem wp_app_b {K : Act → World → Prop} (s x : Operand) (t : TypeId)
    (ho : o.op = .call { callee := .builtin .append, args := #[s, x], argTypes := #[t, t] })
    (e : TypeId) (ht : P.underlying t = some (.slice e)) (hinfo : (P.info? e).map (fun i => (i.zero, i.size, i.bytes)) = some (some (.int .u8 0), 1, 1))
    (base : Nat) (v : Value) (bs : List UInt8) (hs : a.eval s = v) (hown : OwnB e w base v bs) (vx : Value) (xs : List UInt8) (S : Nat → Prop) (hx : a.eval x = vx) (hr : enU8.Sl w S vx xs)
    (hbytes : bs.length + xs.length ≤ 140737488355328) (hbase : base ≤ w.heap.size)
    (h : ∀ v' w', OwnB e w' base v' (bs ++ xs) → w.grownBy w' v.ownBlock → (v'.ownBlock = v.ownBlock ∨ ∃ k, v'.ownBlock = some k ∧ w.heap.size ≤ k) → K (a.put o.dst v') w') : o.wp P a w K Q := by
  refine wp_app_rd (f := fun b => [u8v b]) (hm := fun _ => rfl) s x t ho e (.int .u8 0) 1 ht hinfo rfl (by decide) (by decide) base v bs.length _ hs hown vx xs S hx hr (fun y _ u hu => by simp at hu; subst hu; rfl) (by omega) hbase fun A cap w' h2 h3 h4 => ?_
  refine h _ w' ?_ h3 (h4.imp id fun e => ⟨_, e, Nat.le_refl _⟩)
  unfold OwnB
  rw [List.map_append, List.length_append, ← flat_u8 xs]
  exact h2
theorem app_b (hgd : o.guard = none) (s x : Operand) (t : TypeId)
    (ho : o.op = .call { callee := .builtin .append, args := #[s, x], argTypes := #[t, t] })
    (e : TypeId) (ht : P.underlying t = some (.slice e)) (hinfo : (P.info? e).map (fun i => (i.zero, i.size, i.bytes)) = some (some (.int .u8 0), 1, 1))
    (base : Nat) (v : Value) (bs : List UInt8) (hs : a.eval s = v) (hown : OwnB e w base v bs) (vx : Value) (xs : List UInt8) (S : Nat → Prop) (hx : a.eval x = vx) (hr : enU8.Sl w S vx xs)
    (hbytes : bs.length + xs.length ≤ 140737488355328) (hbase : base ≤ w.heap.size)
    (h : ∀ v' w', OwnB e w' base v' (bs ++ xs) → w.grownBy w' v.ownBlock → (v'.ownBlock = v.ownBlock ∨ ∃ k, v'.ownBlock = some k ∧ w.heap.size ≤ k) → wpList P ops Q rest (a.put o.dst v') w') : wpList P ops Q (o :: rest) a w :=
  wpList_plain hgd fun _ hK => wp_app_b s x t ho e ht hinfo base v bs hs hown vx xs S hx hr hbytes hbase fun v' w' h2 h3 h4 => hK _ _ (h v' w' h2 h3 h4)
theorem step_app_b {K : Act → World → Prop} {E : Prop} (hgd : o.guard = none) (s x : Operand) (t : TypeId)
    (ho : o.op = .call { callee := .builtin .append, args := #[s, x], argTypes := #[t, t] })
    (e : TypeId) (ht : P.underlying t = some (.slice e)) (hinfo : (P.info? e).map (fun i => (i.zero, i.size, i.bytes)) = some (some (.int .u8 0), 1, 1))
    (base : Nat) (v : Value) (bs : List UInt8) (hs : a.eval s = v) (hown : OwnB e w base v bs) (vx : Value) (xs : List UInt8) (S : Nat → Prop) (hx : a.eval x = vx) (hr : enU8.Sl w S vx xs)
    (hbytes : bs.length + xs.length ≤ 140737488355328) (hbase : base ≤ w.heap.size)
    (h : ∀ v' w', OwnB e w' base v' (bs ++ xs) → w.grownBy w' v.ownBlock → (v'.ownBlock = v.ownBlock ∨ ∃ k, v'.ownBlock = some k ∧ w.heap.size ≤ k) → K (a.put o.dst v') w') : if Region.wanted o (yielded ops a.tmps) = true then Oper.wp P o a w K Q else E := by
  have hw : Region.wanted o (yielded ops a.tmps) = true := by simp [Region.wanted, hgd]
  rw [if_pos hw]
  exact wp_app_b s x t ho e ht hinfo base v bs hs hown vx xs S hx hr hbytes hbase h
/-- A literal byte. -/
theorem wp_app_b1 {K : Act → World → Prop} (s x : Operand) (t : TypeId)
    (ho : o.op = .call { callee := .builtin .append, args := #[s, x], argTypes := #[t, t] })
    (e : TypeId) (ht : P.underlying t = some (.slice e)) (hinfo : (P.info? e).map (fun i => (i.zero, i.size, i.bytes)) = some (some (.int .u8 0), 1, 1))
    (base : Nat) (v : Value) (bs : List UInt8) (hs : a.eval s = v) (hown : OwnB e w base v bs) (gs : Nat) (cs : Array Value) (xs : List UInt8) (n c : Nat) (hx : a.eval x = .slice (some ⟨gs, 0, none⟩) n c) (hblk : Blk w gs e cs) (hcs : cs.toList = xs.map u8v) (hn : n = xs.length) (hc : n ≤ c)
    (hbytes : bs.length + xs.length ≤ 140737488355328) (hbase : base ≤ w.heap.size)
    (h : ∀ v' w', OwnB e w' base v' (bs ++ xs) → w.grownBy w' v.ownBlock → (v'.ownBlock = v.ownBlock ∨ ∃ k, v'.ownBlock = some k ∧ w.heap.size ≤ k) → K (a.put o.dst v') w') : o.wp P a w K Q := by
  subst hn
  refine wp_app_b s x t ho e ht hinfo base v bs hs hown _ xs (fun k => k < w.heap.size) hx ⟨_, c, rfl, hc, fun i y hi => ⟨⟨gs, 0, none⟩, [u8v y], rfl, hblk.lt, rfl, fun j u hj => ?_⟩⟩ hbytes hbase h
  have hj0 : j = 0 := by
    rcases j with _ | j
    · rfl
    · simp at hj
  subst hj0
  rw [add_lit, hblk.cell]
  have h1 : cs.toList[i]? = some (u8v y) := by rw [hcs, List.getElem?_map, hi]; rfl
  simp at hj
  subst hj
  rw [show i * enU8.sz + 0 = i from by show i * 1 + 0 = i; omega]
  simpa using h1
theorem app_b1 (hgd : o.guard = none) (s x : Operand) (t : TypeId)
    (ho : o.op = .call { callee := .builtin .append, args := #[s, x], argTypes := #[t, t] })
    (e : TypeId) (ht : P.underlying t = some (.slice e)) (hinfo : (P.info? e).map (fun i => (i.zero, i.size, i.bytes)) = some (some (.int .u8 0), 1, 1))
    (base : Nat) (v : Value) (bs : List UInt8) (hs : a.eval s = v) (hown : OwnB e w base v bs) (gs : Nat) (cs : Array Value) (xs : List UInt8) (n c : Nat) (hx : a.eval x = .slice (some ⟨gs, 0, none⟩) n c) (hblk : Blk w gs e cs) (hcs : cs.toList = xs.map u8v) (hn : n = xs.length) (hc : n ≤ c)
    (hbytes : bs.length + xs.length ≤ 140737488355328) (hbase : base ≤ w.heap.size)
    (h : ∀ v' w', OwnB e w' base v' (bs ++ xs) → w.grownBy w' v.ownBlock → (v'.ownBlock = v.ownBlock ∨ ∃ k, v'.ownBlock = some k ∧ w.heap.size ≤ k) → wpList P ops Q rest (a.put o.dst v') w') : wpList P ops Q (o :: rest) a w :=
  wpList_plain hgd fun _ hK => wp_app_b1 s x t ho e ht hinfo base v bs hs hown gs cs xs n c hx hblk hcs hn hc hbytes hbase fun v' w' h2 h3 h4 => hK _ _ (h v' w' h2 h3 h4)
theorem step_app_b1 {K : Act → World → Prop} {E : Prop} (hgd : o.guard = none) (s x : Operand) (t : TypeId)
    (ho : o.op = .call { callee := .builtin .append, args := #[s, x], argTypes := #[t, t] })
    (e : TypeId) (ht : P.underlying t = some (.slice e)) (hinfo : (P.info? e).map (fun i => (i.zero, i.size, i.bytes)) = some (some (.int .u8 0), 1, 1))
    (base : Nat) (v : Value) (bs : List UInt8) (hs : a.eval s = v) (hown : OwnB e w base v bs) (gs : Nat) (cs : Array Value) (xs : List UInt8) (n c : Nat) (hx : a.eval x = .slice (some ⟨gs, 0, none⟩) n c) (hblk : Blk w gs e cs) (hcs : cs.toList = xs.map u8v) (hn : n = xs.length) (hc : n ≤ c)
    (hbytes : bs.length + xs.length ≤ 140737488355328) (hbase : base ≤ w.heap.size)
    (h : ∀ v' w', OwnB e w' base v' (bs ++ xs) → w.grownBy w' v.ownBlock → (v'.ownBlock = v.ownBlock ∨ ∃ k, v'.ownBlock = some k ∧ w.heap.size ≤ k) → K (a.put o.dst v') w') : if Region.wanted o (yielded ops a.tmps) = true then Oper.wp P o a w K Q else E := by
  have hw : Region.wanted o (yielded ops a.tmps) = true := by simp [Region.wanted, hgd]
  rw [if_pos hw]
  exact wp_app_b1 s x t ho e ht hinfo base v bs hs hown gs cs xs n c hx hblk hcs hn hc hbytes hbase h
/-- A string. -/
theorem app_bs (hgd : o.guard = none) (sl x : Operand) (t u : TypeId)
    (ho : o.op = .call { callee := .builtin .append, args := #[sl, x], argTypes := #[t, u] })
    (base : Nat) (e : TypeId) (ht : P.underlying t = some (.slice e)) (hu : P.underlying u = some .string) (hinfo : (P.info? e).map (fun i => (i.zero, i.size, i.bytes)) = some (some (.int .u8 0), 1, 1))
    (v : Value) (bs : List UInt8) (hs : a.eval sl = v) (hown : OwnB e w base v bs) (s : ByteArray) (hx : a.eval x = .string s) (hbytes : bs.length + s.size ≤ 140737488355328) (hbase : base ≤ w.heap.size)
    (h : ∀ v' w', OwnB e w' base v' (bs ++ s.data.toList) → w.grownBy w' v.ownBlock → (v'.ownBlock = v.ownBlock ∨ ∃ k, v'.ownBlock = some k ∧ w.heap.size ≤ k) → wpList P ops Q rest (a.put o.dst v') w') : wpList P ops Q (o :: rest) a w :=
  app_str hgd sl x t u ho base e ht hu hinfo v bs.length _ hs hown s hx hbytes hbase fun v' w' h2 h3 h4 => h v' w' (by
    unfold OwnB
    rw [List.map_append, List.length_append, show s.data.toList.length = s.size from Array.length_toList]
    exact h2) h3 h4
end
/-- The call's own bytes, nothing else lost. -/
theorem OwnB.keep {e : TypeId} {w w' : World} {base : Nat} {v : Value} {bs : List UInt8} {row : Option Nat} (h : OwnB e w base v bs) (hg : w.grownBy w' row) (hne : v.ownBlock = none ∨ v.ownBlock ≠ row) : OwnB e w' base v bs := World.ownsRow.kept h hg hne
theorem OwnB.below {e : TypeId} {w w' : World} {base : Nat} {v : Value} {bs : List UInt8} (h : OwnB e w base v bs) (hb : Below w.heap.size w w') : OwnB e w' base v bs := own_below h hb
theorem OwnB.alloc {e : TypeId} {w : World} {base : Nat} {v : Value} {bs : List UInt8} (h : OwnB e w base v bs) (o : Obj) : OwnB e (w.alloc o) base v bs := World.ownsRow.alloc h o
theorem OwnB.less {e : TypeId} {w : World} {b base : Nat} {v : Value} {bs : List UInt8} (h : OwnB e w b v bs) (hle : base ≤ b) : OwnB e w base v bs := own_less h hle
end Go.Proofs.Ytamaihlpdebekaa
