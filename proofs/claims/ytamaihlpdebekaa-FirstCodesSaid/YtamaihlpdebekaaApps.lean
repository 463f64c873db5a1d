/- append of what reads as a list, onto a row of the call's own. No program in it. -/
import Derived.Test.YtamaihlpdebekaaWords
import Derived.Deep.Upon
namespace Go.Proofs.Ytamaihlpdebekaa
open Go.RowKit
set_option linter.unusedVariables false
set_option linter.unusedSimpArgs false

/-- A literal is a row of the call's own. -/
theorem own_new {w : World} {g base : Nat} {e : TypeId} {size n : Nat} {cs : Array Value} {xs : List Value} (h : Blk w g e cs) (hn : cs.size = n * size) (hm : n ≤ maxLen) (hb : base ≤ g) (hx : cs.toList = xs) :
    w.ownsRow base e size (.slice (some ⟨g, 0, none⟩) n n) n xs := by
  subst hx
  refine ⟨by simpa using hn, .inr ⟨g, n, cs, rfl, hb, h, Nat.le_refl _, hm, hn, ?_⟩⟩
  rw [List.take_of_length_le (by rw [Array.length_toList, hn]; exact Nat.le_refl _)]

theorem flat_cells {T : Type} {f : T → List Value} {m : Nat} {hm : ∀ x, (f x).length = m} {w : World} {S : Nat → Prop} {A : Option Addr} {n c : Nat} {xs : List T} (h : (En.flat m f hm).Sl w S (.slice A n c) xs) (ad : Addr) (hA : A = some ad) :
    ∀ j u, (xs.flatMap f)[j]? = some u → w.cell? (ad.add j) = some u := by
  obtain ⟨A', c', hv, hl, hx⟩ := h
  injection hv with h1 h2 h3
  subst h1
  intro j u hj
  rcases Nat.eq_zero_or_pos m with h0 | hpos
  · exfalso
    obtain ⟨x, _, hu⟩ := List.mem_flatMap.1 (List.mem_of_getElem? hj)
    have := hm x
    rw [h0] at this
    rw [List.eq_nil_of_length_eq_zero this] at hu
    cases hu
  · have hi : j / m < xs.length := by
      have hlen : (xs.flatMap f).length = xs.length * m := by
        clear hj hx hl h2
        induction xs with
        | nil => simp
        | cons y ys ih => rw [List.flatMap_cons, List.length_append, hm, ih, List.length_cons, Nat.succ_mul]; omega
      have hjl : j < xs.length * m := by
        rcases Nat.lt_or_ge j (xs.length * m) with h | h
        · exact h
        · rw [List.getElem?_eq_none (by omega)] at hj; cases hj
      exact Nat.div_lt_of_lt_mul (by rw [Nat.mul_comm]; exact hjl)
    obtain ⟨a, cs, hA', _, hr, hc⟩ := hx (j / m) _ (List.getElem?_eq_getElem hi)
    obtain rfl : cs = f xs[j / m] := hr
    rw [hA] at hA'
    injection hA' with hA'
    subst hA'
    have hdm : j / m * m + j % m = j := by rw [Nat.mul_comm]; exact Nat.div_add_mod j m
    have := flatMap_get hm xs (j / m) _ (j % m) (List.getElem?_eq_getElem hi) (Nat.mod_lt _ hpos)
    rw [hdm, hj] at this
    have := hc (j % m) u this.symm
    rw [show (En.flat m f hm).sz = m from rfl, hdm] at this
    exact this

section
variable {P : Program} {w : World}
theorem run_app_rd {T : Type} {f : T → List Value} {size : Nat} {hm : ∀ x, (f x).length = size} (t ty e : TypeId) (z : Value) (bytes : Nat) (ht : P.underlying t = some (.slice e)) (hinfo : (P.info? e).map (fun i => (i.zero, i.size, i.bytes)) = some (some z, size, bytes))
    (hzs : z.cells.size = size) (hsz : 0 < size) (hby : 0 < bytes)
    (base : Nat) (v : Value) (n : Nat) (olds : List Value) (hown : w.ownsRow base e size v n olds) (vx : Value) (xs : List T) (S : Nat → Prop) (hr : (En.flat size f hm).Sl w S vx xs) (h1 : ∀ x ∈ xs, ∀ u ∈ f x, u.oneCell' = true)
    (hbytes : (n + xs.length) * bytes ≤ 140737488355328) (hbase : base ≤ w.heap.size) :
    ∃ v' w', (Builtin.append_ #[t, t] ty #[v, vx]).run P w = .ok v' w' ∧ w'.ownsRow base e size v' (n + xs.length) (olds ++ xs.flatMap f) ∧ w.grownBy w' v.ownBlock ∧ (v'.ownBlock = v.ownBlock ∨ v'.ownBlock = some w.heap.size) := by
  obtain ⟨i0, hi, hz0, hz1, hz2⟩ := info_parts hinfo
  obtain ⟨A, c, rfl, hl, hx⟩ := id hr
  have hmx : n + xs.length ≤ maxLen := by
    have : n + xs.length ≤ (n + xs.length) * bytes := Nat.le_mul_of_pos_right _ hby
    unfold maxLen; omega
  have hlen : (xs.flatMap f).length = xs.length * size := by
    clear hx hl hr h1 hbytes hmx
    induction xs with
    | nil => simp
    | cons y ys ih => rw [List.flatMap_cons, List.length_append, hm, ih, List.length_cons, Nat.succ_mul]; omega
  rcases A with _ | ad
  · obtain rfl : xs = [] := by
      rcases xs with _ | ⟨x, xs⟩
      · rfl
      · obtain ⟨a, _, ha, _⟩ := hx 0 x rfl
        cases ha
    obtain ⟨A', c', rfl, hnc⟩ := own_slice hown
    refine ⟨_, w, run_append_nothing (P := P) w t t ty e i0 ht hi A' n c' hnc _ (Src.ofNil w ht c), by simpa using hown, ⟨rfl, rfl, rfl, Nat.le_refl _, fun _ _ _ => rfl⟩, .inl rfl⟩
  · have hns : ∀ u ∈ xs.flatMap f, u.oneCell' = true := fun u hu => by
      obtain ⟨x, hx, hu⟩ := List.mem_flatMap.1 hu
      exact h1 x hx u hu
    obtain ⟨v', w', r1, r2, r3, _, r5⟩ := run_append_own_at (P := P) w base t ty e i0 z size bytes ht hi hz0 hz1 hz2 hzs hsz v n olds hown ad xs.length c (xs.flatMap f) hlen (flat_cells hr ad rfl) hns hmx hbytes hbase
    exact ⟨v', w', r1, r2, r3, r5⟩

variable {ops : Array Oper} {rest : List Oper} {o : Oper} {a : Act} {Q : Exit → Act → World → Prop}
theorem wp_app_rd {K : Act → World → Prop} {T : Type} {f : T → List Value} {size : Nat} {hm : ∀ x, (f x).length = size} (s x : Operand) (t : TypeId)
    (ho : o.op = .call { callee := .builtin .append, args := #[s, x], argTypes := #[t, t] })
    (e : TypeId) (z : Value) (bytes : Nat) (ht : P.underlying t = some (.slice e)) (hinfo : (P.info? e).map (fun i => (i.zero, i.size, i.bytes)) = some (some z, size, bytes))
    (hzs : z.cells.size = size) (hsz : 0 < size) (hby : 0 < bytes)
    (base : Nat) (v : Value) (n : Nat) (olds : List Value) (hs : a.eval s = v) (hown : w.ownsRow base e size v n olds) (vx : Value) (xs : List T) (S : Nat → Prop) (hx : a.eval x = vx) (hr : (En.flat size f hm).Sl w S vx xs) (h1 : ∀ x ∈ xs, ∀ u ∈ f x, u.oneCell' = true)
    (hbytes : (n + xs.length) * bytes ≤ 140737488355328) (hbase : base ≤ w.heap.size)
    (h : ∀ A cap w', w'.ownsRow base e size (.slice A (n + xs.length) cap) (n + xs.length) (olds ++ xs.flatMap f) → w.grownBy w' v.ownBlock → ((Value.slice A (n + xs.length) cap).ownBlock = v.ownBlock ∨ (Value.slice A (n + xs.length) cap).ownBlock = some w.heap.size) → K (a.put o.dst (.slice A (n + xs.length) cap)) w') : o.wp P a w K Q := by
  obtain ⟨v', w', r1, r2, r3, r4⟩ := run_app_rd (P := P) t o.type e z bytes ht hinfo hzs hsz hby base v n olds hown vx xs S hr h1 hbytes hbase
  obtain ⟨A, cap, rfl, _⟩ := own_slice r2
  unfold Oper.wp execOp
  simp only [ho, resolve, invoke, builtin, Sem.run_bind, Sem.run_pure, Result.andThen_ok, List.map_toArray, List.map_cons, List.map_nil, hs, hx, r1]
  exact h A cap w' r2 r3 r4
theorem app_rd {T : Type} {f : T → List Value} {size : Nat} {hm : ∀ x, (f x).length = size} (hgd : o.guard = none) (s x : Operand) (t : TypeId)
    (ho : o.op = .call { callee := .builtin .append, args := #[s, x], argTypes := #[t, t] })
    (e : TypeId) (z : Value) (bytes : Nat) (ht : P.underlying t = some (.slice e)) (hinfo : (P.info? e).map (fun i => (i.zero, i.size, i.bytes)) = some (some z, size, bytes))
    (hzs : z.cells.size = size) (hsz : 0 < size) (hby : 0 < bytes)
    (base : Nat) (v : Value) (n : Nat) (olds : List Value) (hs : a.eval s = v) (hown : w.ownsRow base e size v n olds) (vx : Value) (xs : List T) (S : Nat → Prop) (hx : a.eval x = vx) (hr : (En.flat size f hm).Sl w S vx xs) (h1 : ∀ x ∈ xs, ∀ u ∈ f x, u.oneCell' = true)
    (hbytes : (n + xs.length) * bytes ≤ 140737488355328) (hbase : base ≤ w.heap.size)
    (h : ∀ A cap w', w'.ownsRow base e size (.slice A (n + xs.length) cap) (n + xs.length) (olds ++ xs.flatMap f) → w.grownBy w' v.ownBlock → ((Value.slice A (n + xs.length) cap).ownBlock = v.ownBlock ∨ (Value.slice A (n + xs.length) cap).ownBlock = some w.heap.size) → wpList P ops Q rest (a.put o.dst (.slice A (n + xs.length) cap)) w') : wpList P ops Q (o :: rest) a w :=
  wpList_plain hgd fun _ hK => wp_app_rd s x t ho e z bytes ht hinfo hzs hsz hby base v n olds hs hown vx xs S hx hr h1 hbytes hbase fun A cap w' h2 h3 h4 => hK _ _ (h A cap w' h2 h3 h4)
theorem step_app_rd {K : Act → World → Prop} {E : Prop} {T : Type} {f : T → List Value} {size : Nat} {hm : ∀ x, (f x).length = size} (hgd : o.guard = none) (s x : Operand) (t : TypeId)
    (ho : o.op = .call { callee := .builtin .append, args := #[s, x], argTypes := #[t, t] })
    (e : TypeId) (z : Value) (bytes : Nat) (ht : P.underlying t = some (.slice e)) (hinfo : (P.info? e).map (fun i => (i.zero, i.size, i.bytes)) = some (some z, size, bytes))
    (hzs : z.cells.size = size) (hsz : 0 < size) (hby : 0 < bytes)
    (base : Nat) (v : Value) (n : Nat) (olds : List Value) (hs : a.eval s = v) (hown : w.ownsRow base e size v n olds) (vx : Value) (xs : List T) (S : Nat → Prop) (hx : a.eval x = vx) (hr : (En.flat size f hm).Sl w S vx xs) (h1 : ∀ x ∈ xs, ∀ u ∈ f x, u.oneCell' = true)
    (hbytes : (n + xs.length) * bytes ≤ 140737488355328) (hbase : base ≤ w.heap.size)
    (h : ∀ A cap w', w'.ownsRow base e size (.slice A (n + xs.length) cap) (n + xs.length) (olds ++ xs.flatMap f) → w.grownBy w' v.ownBlock → ((Value.slice A (n + xs.length) cap).ownBlock = v.ownBlock ∨ (Value.slice A (n + xs.length) cap).ownBlock = some w.heap.size) → K (a.put o.dst (.slice A (n + xs.length) cap)) w') : if Region.wanted o (yielded ops a.tmps) = true then Oper.wp P o a w K Q else E := by
  have hw : Region.wanted o (yielded ops a.tmps) = true := by simp [Region.wanted, hgd]
  rw [if_pos hw]
  exact wp_app_rd s x t ho e z bytes ht hinfo hzs hsz hby base v n olds hs hown vx xs S hx hr h1 hbytes hbase h
/-- The same onto a row of no length. -/
theorem step_app_rd0 {K : Act → World → Prop} {E : Prop} {T : Type} {f : T → List Value} {size : Nat} {hm : ∀ x, (f x).length = size} (hgd : o.guard = none) (s x : Operand) (t : TypeId)
    (ho : o.op = .call { callee := .builtin .append, args := #[s, x], argTypes := #[t, t] })
    (e : TypeId) (z : Value) (bytes : Nat) (ht : P.underlying t = some (.slice e)) (hinfo : (P.info? e).map (fun i => (i.zero, i.size, i.bytes)) = some (some z, size, bytes))
    (hzs : z.cells.size = size) (hsz : 0 < size) (hby : 0 < bytes)
    (base : Nat) (v : Value) (hs : a.eval s = v) (hown : w.ownsRow base e size v 0 []) (vx : Value) (xs : List T) (S : Nat → Prop) (hx : a.eval x = vx) (hr : (En.flat size f hm).Sl w S vx xs) (h1 : ∀ x ∈ xs, ∀ u ∈ f x, u.oneCell' = true)
    (hbytes : xs.length * bytes ≤ 140737488355328) (hbase : base ≤ w.heap.size)
    (h : ∀ A cap w', w'.ownsRow base e size (.slice A xs.length cap) xs.length (xs.flatMap f) → w.grownBy w' v.ownBlock → ((Value.slice A xs.length cap).ownBlock = v.ownBlock ∨ (Value.slice A xs.length cap).ownBlock = some w.heap.size) → K (a.put o.dst (.slice A xs.length cap)) w') : if Region.wanted o (yielded ops a.tmps) = true then Oper.wp P o a w K Q else E := by
  refine step_app_rd hgd s x t ho e z bytes ht hinfo hzs hsz hby base v 0 [] hs hown vx xs S hx hr h1 (by rw [Nat.zero_add]; exact hbytes) hbase fun A cap w' h2 h3 h4 => ?_
  rw [Nat.zero_add] at h2 h4 ⊢
  exact h A cap w' h2 h3 h4
theorem app_rd0 {T : Type} {f : T → List Value} {size : Nat} {hm : ∀ x, (f x).length = size} (hgd : o.guard = none) (s x : Operand) (t : TypeId)
    (ho : o.op = .call { callee := .builtin .append, args := #[s, x], argTypes := #[t, t] })
    (e : TypeId) (z : Value) (bytes : Nat) (ht : P.underlying t = some (.slice e)) (hinfo : (P.info? e).map (fun i => (i.zero, i.size, i.bytes)) = some (some z, size, bytes))
    (hzs : z.cells.size = size) (hsz : 0 < size) (hby : 0 < bytes)
    (base : Nat) (v : Value) (hs : a.eval s = v) (hown : w.ownsRow base e size v 0 []) (vx : Value) (xs : List T) (S : Nat → Prop) (hx : a.eval x = vx) (hr : (En.flat size f hm).Sl w S vx xs) (h1 : ∀ x ∈ xs, ∀ u ∈ f x, u.oneCell' = true)
    (hbytes : xs.length * bytes ≤ 140737488355328) (hbase : base ≤ w.heap.size)
    (h : ∀ A cap w', w'.ownsRow base e size (.slice A xs.length cap) xs.length (xs.flatMap f) → w.grownBy w' v.ownBlock → ((Value.slice A xs.length cap).ownBlock = v.ownBlock ∨ (Value.slice A xs.length cap).ownBlock = some w.heap.size) → wpList P ops Q rest (a.put o.dst (.slice A xs.length cap)) w') : wpList P ops Q (o :: rest) a w := by
  refine app_rd hgd s x t ho e z bytes ht hinfo hzs hsz hby base v 0 [] hs hown vx xs S hx hr h1 (by rw [Nat.zero_add]; exact hbytes) hbase fun A cap w' h2 h3 h4 => ?_
  rw [Nat.zero_add] at h2 h4 ⊢
  exact h A cap w' h2 h3 h4
/-- Append leaves what lay under a mark at or below the row's own block. -/
theorem below_app {w0 w w' : World} {v : Value} (h : Below w0.heap.size w0 w) (hg : w.grownBy w' v.ownBlock) (hb : ∀ k, v.ownBlock = some k → w0.heap.size ≤ k) : Below w0.heap.size w0 w' := h.grown hg h.size hb
end
end Go.Proofs.Ytamaihlpdebekaa
