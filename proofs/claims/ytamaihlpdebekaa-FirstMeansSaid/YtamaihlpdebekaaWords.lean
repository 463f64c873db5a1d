/- Words for memory: what a value stands for in a world, over a footprint of blocks. My own; no program in it. -/
import Derived.Test.YtamaihlpdebekaaProg
import Derived.Below
import Derived.WalkKit
import Derived.WalkSpells
import Derived.WalkLawsBesides
import Derived.Deep.Draws
import Derived.Deep.AppendLies
import Derived.Maps.AppendAt
import Derived.OwnWalk
import Derived.OneCell
import Derived.Lib.AppendStr
import Derived.Laws.BytesArg
import Derived.Laws.BitsLemmas
import Derived.Deep.RegionLaw
import Derived.Deep.RegionHeld3
import Derived.Deep.QuietTactic
import Derived.BigQuiet
import Derived.Laws.EntriesVeiled
import Derived.Lib.SmallJoins
import Derived.Laws.StructEq
import Derived.Deep.DeepCutAuto
import Derived.Deep.CutBlock
namespace Go.Proofs.Ytamaihlpdebekaa
open Go.RowKit
set_option linter.unusedVariables false
set_option linter.unusedSimpArgs false

structure Aside (p : Prop) : Prop where mk :: (out : p)

theorem block_of_add (a : Addr) (n : Nat) : (a.add n).block = a.block := by unfold Addr.add; split <;> rfl
theorem add_of_add (a : Addr) (i j : Nat) : (a.add i).add j = a.add (i + j) := by
  unfold Addr.add
  by_cases hi : i = 0 <;> by_cases hj : j = 0 <;> simp [hi, hj, Nat.add_assoc]
theorem add_fld (a : Addr) (m j : Nat) (hj : 0 < j) : a.add (m + j) = ⟨(a.add m).block, (a.add m).off + j, none⟩ := by
  unfold Addr.add
  rw [if_neg (by omega)]
  by_cases hm : m = 0
  · rw [if_pos hm]; simp [hm]
  · rw [if_neg hm]; simp [Nat.add_assoc]
theorem add_lit (g i : Nat) : (⟨g, 0, none⟩ : Addr).add i = ⟨g, i, none⟩ := by
  unfold Addr.add
  split
  · simp_all
  · simp

theorem bcell {W w1 : World} (hb : Below W.heap.size W w1) : (∀ b o, b < W.heap.size → w1.cell? ⟨b, o, none⟩ = W.cell? ⟨b, o, none⟩) ∧ (∀ b o, b < W.heap.size → w1.frozen? ⟨b, o, none⟩ = W.frozen? ⟨b, o, none⟩) :=
  ⟨fun b o h => hb.cell (p := ⟨b, o, none⟩) h, fun b o h => hb.frozen (p := ⟨b, o, none⟩) h⟩
theorem below_drewN {B : Nat} {w W : World} (h : Below B w W) (n : Nat) : Below B w (W.drewN n) := ⟨h.os, h.tape, h.output, h.size, h.block⟩
theorem below_drew {B : Nat} {w W : World} (h : Below B w W) : Below B w W.drew := ⟨h.os, h.tape, h.output, h.size, h.block⟩
theorem below_alloc {w W : World} (h : Below w.heap.size w W) (o : Obj) : Below w.heap.size w (W.alloc o) := h.alloc h.size o
theorem below_step {w W w2 : World} (h : Below w.heap.size w W) (k : Below W.heap.size W w2) : Below w.heap.size w w2 := h.trans (k.mono h.size)
theorem below_set {w W : World} {g j : Nat} {v : Value} (h : Below w.heap.size w W) (hg : w.heap.size ≤ g) : Below w.heap.size w (W.setCell ⟨g, j, none⟩ v) := h.setCell hg _

theorem enters {P : Program} {f : FuncId} {fn : Func} {c : Code} (hf : P.funcs[f]? = some fn) (hname : (fn.name == "runtime.NumGoroutine") = false) (hb : fn.body = some c) : ∀ (args : Array Value) (w : World), (callFunc f args).run P w = .ok (.enter f args) w := by
  intro args w
  have h1 : fn.name ≠ "runtime.NumGoroutine" := by simpa using hname
  simp [callFunc, hf, h1, hb, mark]

theorem ret_bool {a b : Bool} (h : a = b) : Ending.returned (.bool a) = .returned (.bool b) := by rw [h]
theorem ret_int {k : IntKind} {a b : Int} (h : a = b) : Ending.returned (.int k a) = .returned (.int k b) := by rw [h]
theorem dec_eq {a b : Prop} [Decidable a] [Decidable b] (h : a ↔ b) : decide a = decide b := decide_eq_decide.2 h

/-- How a T lies in memory: sz cells, over a set S of blocks that the reading goes to. -/
structure En (T : Type) where
  sz : Nat
  rel : World → (Nat → Prop) → T → List Value → Prop
  len : ∀ {w S x cs}, rel w S x cs → cs.length = sz
  move : ∀ {w w' S S' x cs}, rel w S x cs → (∀ k, S k → w'.heap[k]? = w.heap[k]?) → (∀ k, S k → S' k) → rel w' S' x cs

/-- v is a slice that reads as xs. -/
def En.Sl {T : Type} (E : En T) (w : World) (S : Nat → Prop) (v : Value) (xs : List T) : Prop :=
  ∃ A c, v = .slice A xs.length c ∧ xs.length ≤ c ∧
    ∀ i x, xs[i]? = some x → ∃ a cs, A = some a ∧ S a.block ∧ E.rel w S x cs ∧ ∀ j u, cs[j]? = some u → w.cell? (a.add (i * E.sz + j)) = some u

theorem En.Sl.move {T : Type} {E : En T} {w w' : World} {S S' : Nat → Prop} {v : Value} {xs : List T} (h : E.Sl w S v xs) (hw : ∀ k, S k → w'.heap[k]? = w.heap[k]?) (hS : ∀ k, S k → S' k) : E.Sl w' S' v xs := by
  obtain ⟨A, c, hv, hl, hx⟩ := h
  refine ⟨A, c, hv, hl, fun i x hi => ?_⟩
  obtain ⟨a, cs, hA, ha, hr, hc⟩ := hx i x hi
  exact ⟨a, cs, hA, hS _ ha, E.move hr hw hS, fun j u hj => (World.cell?_of_block (w := w) (by rw [block_of_add]; exact hw _ ha)).trans (hc j u hj)⟩

theorem En.Sl.nil {T : Type} (E : En T) (w : World) (S : Nat → Prop) (A : Option Addr) (c : Nat) : E.Sl w S (.slice A 0 c) [] := ⟨A, c, rfl, Nat.zero_le _, fun i x h => by simp at h⟩

theorem En.Sl.drewN {T : Type} {E : En T} {w : World} {S : Nat → Prop} {v : Value} {xs : List T} (h : E.Sl w S v xs) (n : Nat) : E.Sl (w.drewN n) S v xs := h.move (fun _ _ => rfl) (fun _ h => h)
theorem En.Sl.drew {T : Type} {E : En T} {w : World} {S : Nat → Prop} {v : Value} {xs : List T} (h : E.Sl w S v xs) : E.Sl w.drew S v xs := h.move (fun _ _ => rfl) (fun _ h => h)

def En.flat {T : Type} (n : Nat) (f : T → List Value) (h : ∀ x, (f x).length = n) : En T where
  sz := n
  rel := fun _ _ x cs => cs = f x
  len := fun {_ _ x cs} e => by rw [e]; exact h x
  move := fun e _ _ => e

def En.sl {T : Type} (E : En T) : En (List T) where
  sz := 1
  rel := fun w S xs cs => ∃ v, cs = [v] ∧ E.Sl w S v xs
  len := fun {_ _ _ _} ⟨_, e, _⟩ => by rw [e]; rfl
  move := fun ⟨v, e, h⟩ hw hS => ⟨v, e, h.move hw hS⟩

def En.pair {T U : Type} (E : En T) (F : En U) : En (T × U) where
  sz := E.sz + F.sz
  rel := fun w S x cs => ∃ c d, cs = c ++ d ∧ E.rel w S x.1 c ∧ F.rel w S x.2 d
  len := fun {_ _ _ _} ⟨c, d, e, h1, h2⟩ => by rw [e, List.length_append, E.len h1, F.len h2]
  move := fun ⟨c, d, e, h1, h2⟩ hw hS => ⟨c, d, e, E.move h1 hw hS, F.move h2 hw hS⟩

def En.iso {T U : Type} (E : En T) (f : U → T) : En U where
  sz := E.sz
  rel := fun w S x cs => E.rel w S (f x) cs
  len := fun h => E.len h
  move := fun h hw hS => E.move h hw hS

/-- The slice reads so, in blocks that lie in w. -/
def En.Rd {T : Type} (E : En T) (w : World) (v : Value) (xs : List T) : Prop := E.Sl w (fun k => k < w.heap.size) v xs

theorem En.Rd.below {T : Type} {E : En T} {w w' : World} {v : Value} {xs : List T} (h : E.Rd w v xs) (hb : Below w.heap.size w w') : E.Rd w' v xs :=
  En.Sl.move h (fun k hk => hb.block k hk) (fun k hk => Nat.lt_of_lt_of_le hk hb.size)
theorem En.Rd.nil {T : Type} (E : En T) (w : World) (A : Option Addr) (c : Nat) : E.Rd w (.slice A 0 c) [] := En.Sl.nil E w _ A c

/-- One element. -/
theorem En.Rd.get {T : Type} {E : En T} {w : World} {A : Option Addr} {n c : Nat} {xs : List T} (h : E.Rd w (.slice A n c) xs) (i : Nat) (hi : i < xs.length) :
    ∃ a cs, A = some a ∧ a.block < w.heap.size ∧ E.rel w (fun k => k < w.heap.size) xs[i] cs ∧ ∀ j u, cs[j]? = some u → w.cell? (a.add (i * E.sz + j)) = some u := by
  obtain ⟨A', c', hv, hl, hx⟩ := h
  injection hv with h1 h2 h3
  subst h1
  exact hx i _ (List.getElem?_eq_getElem hi)
theorem En.Rd.len {T : Type} {E : En T} {w : World} {A : Option Addr} {n c : Nat} {xs : List T} (h : E.Rd w (.slice A n c) xs) : n = xs.length ∧ n ≤ c := by
  obtain ⟨A', c', hv, hl, hx⟩ := h
  injection hv with h1 h2 h3
  subst h2 h3
  exact ⟨rfl, hl⟩
theorem En.Rd.form {T : Type} {E : En T} {w : World} {v : Value} {xs : List T} (h : E.Rd w v xs) : ∃ A c, v = .slice A xs.length c ∧ xs.length ≤ c := by
  obtain ⟨A', c', hv, hl, hx⟩ := h
  exact ⟨A', c', hv, hl⟩

/-! ### Bytes and numbers -/
def u8v (b : UInt8) : Value := .int .u8 (b.toNat : Int)
def enU8 : En UInt8 := En.flat 1 (fun b => [u8v b]) (fun _ => rfl)
def enI64 : En Int := En.flat 1 (fun n => [.int .i64 n]) (fun _ => rfl)

theorem rd_at1 {T : Type} {f : T → Value} {w : World} {A : Option Addr} {n c : Nat} {xs : List T} (h : (En.flat 1 (fun x => [f x]) (fun _ => rfl)).Rd w (.slice A n c) xs) (i : Nat) (hi : i < xs.length) :
    ∃ a, A = some a ∧ a.block < w.heap.size ∧ w.cell? (a.add i) = some (f xs[i]) := by
  obtain ⟨a, cs, hA, ha, hr, hc⟩ := h.get i hi
  have hr : cs = [f xs[i]] := hr
  subst hr
  have := hc 0 _ rfl
  rw [show (En.flat 1 (fun x => [f x]) (fun _ => rfl)).sz = 1 from rfl] at this
  rw [Nat.mul_one, Nat.add_zero] at this
  exact ⟨a, hA, ha, this⟩

/-- Three cells. -/
theorem cells3 {w : World} {a : Addr} {i : Nat} {u0 u1 u2 : Value} (hc : ∀ j u, [u0, u1, u2][j]? = some u → w.cell? (a.add (i * 3 + j)) = some u) :
    w.cell? (a.add (i * 3)) = some u0 ∧ w.cell? ⟨(a.add (i * 3)).block, (a.add (i * 3)).off + 1, none⟩ = some u1 ∧ w.cell? ⟨(a.add (i * 3)).block, (a.add (i * 3)).off + 2, none⟩ = some u2 :=
  ⟨hc 0 _ rfl, by rw [← add_fld _ _ 1 (by omega)]; exact hc 1 _ rfl, by rw [← add_fld _ _ 2 (by omega)]; exact hc 2 _ rfl⟩
theorem cells4 {w : World} {a : Addr} {i : Nat} {u0 u1 u2 u3 : Value} (hc : ∀ j u, [u0, u1, u2, u3][j]? = some u → w.cell? (a.add (i * 4 + j)) = some u) :
    w.cell? (a.add (i * 4)) = some u0 ∧ w.cell? ⟨(a.add (i * 4)).block, (a.add (i * 4)).off + 1, none⟩ = some u1 ∧ w.cell? ⟨(a.add (i * 4)).block, (a.add (i * 4)).off + 2, none⟩ = some u2 ∧ w.cell? ⟨(a.add (i * 4)).block, (a.add (i * 4)).off + 3, none⟩ = some u3 :=
  ⟨hc 0 _ rfl, by rw [← add_fld _ _ 1 (by omega)]; exact hc 1 _ rfl, by rw [← add_fld _ _ 2 (by omega)]; exact hc 2 _ rfl, by rw [← add_fld _ _ 3 (by omega)]; exact hc 3 _ rfl⟩

/-! ### A block known whole -/
def Blk (w : World) (g : Nat) (t : TypeId) (cs : Array Value) : Prop := w.heap[g]? = some (.cells cs t (0, 0))
section
variable {w w' : World} {g : Nat} {t : TypeId} {cs : Array Value}
theorem Blk.lt (h : Blk w g t cs) : g < w.heap.size := (Array.getElem?_eq_some_iff.1 h).1
theorem Blk.cell (h : Blk w g t cs) (i : Nat) : w.cell? ⟨g, i, none⟩ = cs[i]? := cell_of_row w g i cs t (0, 0) h
theorem Blk.frozen (h : Blk w g t cs) (i : Nat) : w.frozen? ⟨g, i, none⟩ = false := by
  unfold Blk at h
  simp [World.frozen?, h]
theorem Blk.new (w : World) (t : TypeId) (cs : Array Value) : Blk (w.alloc (.cells cs t)) w.heap.size t cs := heap_alloc_new w _
theorem Blk.drew (h : Blk w g t cs) : Blk w.drew g t cs := h
theorem Blk.drewN (h : Blk w g t cs) (n : Nat) : Blk (w.drewN n) g t cs := h
theorem Blk.alloc (h : Blk w g t cs) (o : Obj) : Blk (w.alloc o) g t cs := (Below.heap_alloc w o g h.lt).trans h
theorem Blk.set_ (h : Blk w g t cs) (i : Nat) (u : Value) : Blk (w.setCell ⟨g, i, none⟩ u) g t (cs.setIfInBounds i u) := by
  unfold Blk at h ⊢
  simp [World.setCell, Array.getElem?_modify, h]
theorem Blk.far (h : Blk w g t cs) {p : Addr} (hp : g ≠ p.block) (u : Value) : Blk (w.setCell p u) g t cs := (Below.heap_setCell w p u g hp).trans h
theorem Blk.below {B : Nat} (h : Blk w g t cs) (hb : Below B w w') (hg : g < B) : Blk w' g t cs := (hb.block g hg).trans h
theorem Blk.grown {row : Option Nat} (h : Blk w g t cs) (hb : w.grownBy w' row) (hg : some g ≠ row) : Blk w' g t cs := (hb.block g h.lt hg).trans h
theorem Blk.ne_ {g' : Nat} {t' : TypeId} {cs' : Array Value} (h : Blk w g t cs) (h' : Blk w g' t' cs') (hne : t ≠ t') : g ≠ g' := by
  rintro rfl
  unfold Blk at h h'
  rw [h] at h'
  injection h' with h'
  injection h' with _ ht
  exact hne ht
theorem own_blk_ne {base : Nat} {e : TypeId} {size n : Nat} {v : Value} {xs : List Value} (h : w.ownsRow base e size v n xs) (hg : Blk w g t cs) (hne : e ≠ t) : some g ≠ v.ownBlock := by
  rcases h.2 with ⟨rfl, _⟩ | ⟨g', cap, cur, rfl, _, hh, _⟩
  · simp [Value.ownBlock]
  · intro he
    have : g = g' := by simpa [Value.ownBlock] using he
    subst this
    exact Blk.ne_ (t := e) hh hg hne rfl
end

/-! ### Rows of the call's own -/
theorem own_size {w : World} {base : Nat} {e : TypeId} {size n : Nat} {v : Value} {xs : List Value} (h : w.ownsRow base e size v n xs) : v.ownBlock = none ∨ ∃ k, v.ownBlock = some k ∧ base ≤ k ∧ k < w.heap.size := by
  rcases h.2 with ⟨rfl, _⟩ | ⟨g, cap, cur, rfl, hb, hg, _⟩
  · exact .inl rfl
  · exact .inr ⟨g, rfl, hb, (Array.getElem?_eq_some_iff.1 hg).1⟩
theorem own_slice {w : World} {base n : Nat} {e : TypeId} {size : Nat} {v : Value} {xs : List Value} (h : w.ownsRow base e size v n xs) : ∃ A c, v = .slice A n c ∧ n ≤ c := by
  rcases h.2 with ⟨rfl, rfl⟩ | ⟨g, cap, cur, rfl, hb, hg, hn, _⟩
  · exact ⟨none, 0, rfl, Nat.le_refl _⟩
  · exact ⟨_, cap, rfl, hn⟩
theorem below_of_grown {w0 w w' : World} {row : Option Nat} (h : Below w0.heap.size w0 w) (hg : w.grownBy w' row) (hr : ∀ k, row = some k → w0.heap.size ≤ k) : Below w0.heap.size w0 w' := h.grown hg h.size hr
theorem own_bound {w : World} {base : Nat} {e : TypeId} {size n : Nat} {v : Value} {xs : List Value} (h : w.ownsRow base e size v n xs) : ∀ k, v.ownBlock = some k → base ≤ k := by
  intro k hk
  rcases own_size h with h | ⟨g, h, hb, _⟩
  · rw [h] at hk; cases hk
  · rw [h] at hk; cases hk; exact hb

theorem grownOf {w w' : World} (h : Below w.heap.size w w') (row : Option Nat) : w.grownBy w' row := ⟨h.os, h.tape, h.output, h.size, fun k hk _ => h.block k hk⟩

theorem own_below {w w1 : World} {base : Nat} {e : TypeId} {size n : Nat} {v : Value} {xs : List Value} (h : w.ownsRow base e size v n xs) (hb : Below w.heap.size w w1) : w1.ownsRow base e size v n xs :=
  h.kept (grownOf hb none) (by cases v.ownBlock <;> simp)

theorem own_set {w : World} {base : Nat} {e : TypeId} {size n : Nat} {v : Value} {xs : List Value} (h : w.ownsRow base e size v n xs) {b j : Nat} (hne : some b ≠ v.ownBlock) (u : Value) : (w.setCell ⟨b, j, none⟩ u).ownsRow base e size v n xs :=
  ownsRow_setCell_other h (fun e => hne e.symm) u
theorem own_grown {w w' : World} {base : Nat} {e : TypeId} {size n g : Nat} {v : Value} {xs : List Value} (h : w.ownsRow base e size v n xs) (hg : w.grownBy w' (some g)) (hlt : g < base) : w'.ownsRow base e size v n xs :=
  h.kept hg (.inr fun e => by have := own_bound h g e; omega)

/-- The call's own row of flat elements reads as them. -/
theorem own_sl {T : Type} {f : T → List Value} {m : Nat} {hm : ∀ x, (f x).length = m} {w : World} {base : Nat} {e : TypeId} {v : Value} {xs : List T} {S : Nat → Prop}
    (h : w.ownsRow base e m v xs.length (xs.flatMap f)) (hS : ∀ k, v.ownBlock = some k → S k) : (En.flat m f hm).Sl w S v xs := by
  obtain ⟨A, c, hv, hc⟩ := own_slice h
  refine ⟨A, c, hv, hc, fun i x hi => ?_⟩
  have hlt : i < xs.length := by
    rcases Nat.lt_or_ge i xs.length with h | h
    · exact h
    · rw [List.getElem?_eq_none h] at hi; cases hi
  obtain ⟨g, cap, hv2, hb, hg⟩ := h.form (by omega)
  have hcells := h.cells (g := g) (by rw [hv2]; rfl)
  rw [hv] at hv2
  injection hv2 with hA
  refine ⟨⟨g, 0, none⟩, f x, hA, hS g (by rw [hv, hA]; rfl), rfl, fun j u hj => ?_⟩
  refine hcells _ u ?_
  have hjm : j < m := by
    have := hm x
    rcases Nat.lt_or_ge j m with h | h
    · exact h
    · rw [List.getElem?_eq_none (by omega)] at hj; cases hj
  show (xs.flatMap f)[i * m + j]? = some u
  clear hcells hv hA hS h hc
  induction xs generalizing i with
  | nil => simp at hlt
  | cons y ys ih =>
    cases i with
    | zero =>
      simp at hi
      subst hi
      rw [List.flatMap_cons, List.getElem?_append_left (by rw [hm]; omega), Nat.zero_mul, Nat.zero_add]
      exact hj
    | succ i =>
      rw [List.flatMap_cons, List.getElem?_append_right (by rw [hm, Nat.add_mul]; omega), hm]
      rw [show (i + 1) * m + j - m = i * m + j by rw [Nat.add_mul]; omega]
      exact ih i (by simpa using hi) (by simpa using hlt) rfl

theorem flatMap_get {T : Type} {f : T → List Value} {m : Nat} (hm : ∀ x, (f x).length = m) : ∀ (xs : List T) (i : Nat) (x : T) (j : Nat), xs[i]? = some x → j < m → (xs.flatMap f)[i * m + j]? = (f x)[j]? := by
  intro xs
  induction xs with
  | nil => intro i x j h _; simp at h
  | cons y ys ih =>
    intro i x j hi hj
    cases i with
    | zero =>
      simp at hi
      subst hi
      rw [List.flatMap_cons, List.getElem?_append_left (by rw [hm]; omega), Nat.zero_mul, Nat.zero_add]
    | succ i =>
      rw [List.flatMap_cons, List.getElem?_append_right (by rw [hm, Nat.add_mul]; omega), hm]
      rw [show (i + 1) * m + j - m = i * m + j by rw [Nat.add_mul]; omega]
      exact ih i x j (by simpa using hi) hj
/-- The call's own row of cells reads as a list, element by element. -/
theorem own_sl' {T : Type} {E : En T} {w : World} {base : Nat} {e : TypeId} {v : Value} {xs : List T} {cs : List Value} {S : Nat → Prop}
    (h : w.ownsRow base e E.sz v xs.length cs) (hS : ∀ k, v.ownBlock = some k → S k)
    (hel : ∀ i x, xs[i]? = some x → ∃ c, E.rel w S x c ∧ ∀ j u, c[j]? = some u → cs[i * E.sz + j]? = some u) : E.Sl w S v xs := by
  obtain ⟨A, c, hv, hc⟩ := own_slice h
  refine ⟨A, c, hv, hc, fun i x hi => ?_⟩
  have hlt : i < xs.length := by
    rcases Nat.lt_or_ge i xs.length with h | h
    · exact h
    · rw [List.getElem?_eq_none h] at hi; cases hi
  obtain ⟨g, cap, hv2, hb, hg⟩ := h.form (by omega)
  have hcells := h.cells (g := g) (by rw [hv2]; rfl)
  rw [hv] at hv2
  injection hv2 with hA
  obtain ⟨d, hr, hd⟩ := hel i x hi
  exact ⟨⟨g, 0, none⟩, d, hA, hS g (by rw [hv, hA]; rfl), hr, fun j u hj => hcells _ u (hd j u hj)⟩
theorem own_types {w : World} {b b' : Nat} {e e' : TypeId} {s s' n n' : Nat} {v v' : Value} {xs xs' : List Value} (h : w.ownsRow b e s v n xs) (h' : w.ownsRow b' e' s' v' n' xs') (hne : e ≠ e') : v.ownBlock = none ∨ v.ownBlock ≠ v'.ownBlock := by
  rcases h.2 with ⟨rfl, _⟩ | ⟨g, cap, cur, rfl, _, hg, _⟩
  · exact .inl rfl
  · right
    intro e0
    rcases h'.2 with ⟨rfl, _⟩ | ⟨g', cap', cur', rfl, _, hg', _⟩
    · simp [Value.ownBlock] at e0
    · have : g = g' := by simpa [Value.ownBlock] using e0
      subst this
      rw [hg] at hg'
      injection hg' with hg'
      injection hg' with _ ht
      exact hne ht
theorem own_lt {w : World} {base : Nat} {e : TypeId} {size n : Nat} {v : Value} {xs : List Value} (h : w.ownsRow base e size v n xs) : ∀ k, v.ownBlock = some k → k < w.heap.size := by
  intro k hk
  rcases own_size h with h | ⟨g, h, hb, hl⟩
  · rw [h] at hk; cases hk
  · rw [h] at hk; cases hk; exact hl
theorem own_ne_lt {w : World} {base : Nat} {e : TypeId} {size n b : Nat} {v : Value} {xs : List Value} (h : w.ownsRow base e size v n xs) (hb : b < base) : some b ≠ v.ownBlock := fun e0 => by
  have := own_bound h b e0.symm
  omega
theorem own_ne_new {w : World} {base : Nat} {e : TypeId} {size n b : Nat} {v : Value} {xs : List Value} (h : w.ownsRow base e size v n xs) (hb : w.heap.size ≤ b) : some b ≠ v.ownBlock := fun e0 => by
  have := own_lt h b e0.symm
  omega
theorem ne_grew {n b : Nat} {v v' : Value} (hb : some b ≠ v.ownBlock) (ha : v'.ownBlock = v.ownBlock ∨ ∃ k, v'.ownBlock = some k ∧ n ≤ k) (hn : b < n) : some b ≠ v'.ownBlock := by
  rcases ha with e | ⟨k, e, hk⟩
  · rw [e]; exact hb
  · rw [e]; intro h; injection h with h; omega
theorem own_less {w : World} {b base n : Nat} {e : TypeId} {size : Nat} {v : Value} {xs : List Value} (h : w.ownsRow b e size v n xs) (hle : base ≤ b) : w.ownsRow base e size v n xs := by
  refine ⟨h.1, ?_⟩
  rcases h.2 with hn | ⟨g, cap, cur, hv, hb, r⟩
  · exact .inl hn
  · exact .inr ⟨g, cap, cur, hv, by omega, r⟩

/-- The call's own bytes. e: the number of the type of bytes. -/
def OwnB (e : TypeId) (w : World) (base : Nat) (v : Value) (bs : List UInt8) : Prop := w.ownsRow base e 1 v bs.length (bs.map u8v)
theorem OwnB.sl {e : TypeId} {w : World} {base : Nat} {v : Value} {bs : List UInt8} (h : OwnB e w base v bs) {S : Nat → Prop} (hS : ∀ k, v.ownBlock = some k → S k) : enU8.Sl w S v bs :=
  own_sl (f := fun b => [u8v b]) (m := 1) (by unfold OwnB at h; rw [show bs.flatMap (fun b => [u8v b]) = bs.map u8v from by rw [List.map_eq_flatMap]]; exact h) hS
theorem OwnB.rd {e : TypeId} {w : World} {base : Nat} {v : Value} {bs : List UInt8} (h : OwnB e w base v bs) : enU8.Rd w v bs :=
  h.sl fun k hk => by
    rcases own_size h with h | ⟨g, h, _, hlt⟩
    · rw [h] at hk; cases hk
    · rw [h] at hk; cases hk; exact hlt

/-! ### '==' of structs, field by field -/
section
variable {P : Program} {d : Nat} {xs ys : Array Value} {f : Field} {fs : List Field} {a b : Value} {r s : Bool} {w : World}
theorem eqf1 (hn : (f.name == "_") = false) (ha : (part f.type xs f.offset).run P w = .ok a w) (hb : (part f.type ys f.offset).run P w = .ok b w)
    (he : (Op.equalIn d f.type a b).run P w = .ok r w) (hr : (Op.eqFields d xs ys fs).run P w = .ok s w) : (Op.eqFields d xs ys (f :: fs)).run P w = .ok (r && s) w := by
  have hn' : f.name ≠ "_" := by simpa using hn
  rw [Op.eqFields]
  simp only [if_pos hn', Sem.run_bind, ha, hb, he, Result.andThen_ok]
  cases r
  · simp
  · simpa using hr
theorem eqS {t : TypeId} {gs : Array Field} (hu : P.underlying t = some (.struct gs)) (hp : P.stoodInHeld t = false) (h : (Op.eqFields d xs ys gs.toList).run P w = .ok r w) : (Op.equalIn (d + 1) t (.agg xs) (.agg ys)).run P w = .ok r w := by
  have hg : P.fieldsOf t = gs := by simp [Program.fieldsOf, hu]
  rw [run_equalIn_struct (P := P) w d t xs ys (by rw [hg]; exact hu) hp, hg]
  exact h
end

/-! ### Cuts; bytes as a string -/
theorem En.Sl.take {T : Type} {E : En T} {w : World} {S : Nat → Prop} {A : Option Addr} {n c : Nat} {xs : List T} (h : E.Sl w S (.slice A n c) xs) (m : Nat) (hm : m ≤ n) : E.Sl w S (.slice A m c) (xs.take m) := by
  obtain ⟨A', c', hv, hl, hx⟩ := h
  injection hv with h1 h2 h3
  subst h1 h2 h3
  refine ⟨A, c, by rw [List.length_take, Nat.min_eq_left hm], by rw [List.length_take]; omega, fun i x hi => ?_⟩
  rw [List.getElem?_take] at hi
  split at hi
  · exact hx i x hi
  · cases hi
theorem En.Sl.drop {T : Type} {E : En T} {w : World} {S : Nat → Prop} {A : Option Addr} {n c : Nat} {xs : List T} (h : E.Sl w S (.slice A n c) xs) (m : Nat) (hm : m ≤ n) : E.Sl w S (.slice (if c = m then A else A.map (·.add (m * E.sz))) (n - m) (c - m)) (xs.drop m) := by
  obtain ⟨A', c', hv, hl, hx⟩ := h
  injection hv with h1 h2 h3
  subst h1 h2 h3
  refine ⟨_, _, by rw [List.length_drop], by rw [List.length_drop]; omega, fun i x hi => ?_⟩
  rw [List.getElem?_drop] at hi
  have hlt : m + i < xs.length := by
    rcases Nat.lt_or_ge (m + i) xs.length with h | h
    · exact h
    · rw [List.getElem?_eq_none h] at hi; cases hi
  obtain ⟨a, cs, rfl, ha, hr, hc⟩ := hx _ x hi
  rw [if_neg (by omega)]
  refine ⟨a.add (m * E.sz), cs, rfl, by rw [block_of_add]; exact ha, hr, fun j u hj => ?_⟩
  rw [add_of_add, ← Nat.add_assoc, ← Nat.add_mul]
  exact hc j u hj
theorem En.Sl.form {T : Type} {E : En T} {w : World} {S : Nat → Prop} {v : Value} {xs : List T} (h : E.Sl w S v xs) : ∃ A c, v = .slice A xs.length c ∧ xs.length ≤ c := by
  obtain ⟨A', c', hv, hl, hx⟩ := h
  exact ⟨A', c', hv, hl⟩
theorem En.Sl.len {T : Type} {E : En T} {w : World} {S : Nat → Prop} {A : Option Addr} {n c : Nat} {xs : List T} (h : E.Sl w S (.slice A n c) xs) : n = xs.length ∧ n ≤ c := by
  obtain ⟨A', c', hv, hl, hx⟩ := h
  injection hv with h1 h2 h3
  subst h2 h3
  exact ⟨rfl, hl⟩
theorem slB_at {w : World} {S : Nat → Prop} {A : Option Addr} {n c : Nat} {bs : List UInt8} (h : enU8.Sl w S (.slice A n c) bs) (i : Nat) (hi : i < bs.length) :
    ∃ a, A = some a ∧ S a.block ∧ w.cell? (a.add i) = some (.int .u8 ((bs.getD i 0).toNat : Int)) := by
  obtain ⟨A', c', hv, hl, hx⟩ := h
  injection hv with h1 h2 h3
  subst h1
  obtain ⟨a, cs, hA, ha, hr, hc⟩ := hx i _ (List.getElem?_eq_getElem hi)
  obtain rfl : cs = [u8v bs[i]] := hr
  have := hc 0 _ rfl
  rw [show enU8.sz = 1 from rfl, Nat.mul_one, Nat.add_zero] at this
  exact ⟨a, hA, ha, by rw [this]; simp [hi, u8v]⟩
theorem sl_string {P : Program} {w : World} {src dst e : TypeId} (hs : P.underlying src = some (.slice e)) (he : P.underlying e = some (.int .u8)) (hd : P.underlying dst = some .string) {S : Nat → Prop} {A : Option Addr} {n c : Nat} {bs : List UInt8}
    (h : enU8.Sl w S (.slice A n c) bs) : (convert src dst (.slice A n c)).run P w = .ok (.string ⟨bs.toArray⟩) w := by
  obtain ⟨hn, hnc⟩ := h.len
  have hfin : strOfNums (bs.map fun b => (b.toNat : Int)) = ⟨bs.toArray⟩ := by
    unfold strOfNums
    congr 2
    rw [List.map_map]
    conv => rhs; rw [← List.map_id bs]
    apply List.map_congr_left
    intro b _
    simp
  rcases A with _ | ad
  · obtain rfl : bs = [] := by
      rcases bs with _ | ⟨b, bs⟩
      · rfl
      · obtain ⟨a, ha, _⟩ := slB_at h 0 (by simp)
        cases ha
    subst hn
    exact run_convert_bytes_nil w src e hs he 0 c dst hd
  · have hl : (loadCells ad n).run P w = .ok ((bs.map fun b => (b.toNat : Int)).map (Value.int .u8)).toArray w := by
      have := run_loadCells_list (P := P) w ad ((bs.map fun b => (b.toNat : Int)).map (Value.int .u8)) (fun j v hj => by
        have hjl : j < bs.length := by
          rcases Nat.lt_or_ge j bs.length with h' | h'
          · exact h'
          · rw [List.getElem?_eq_none (by simpa using h')] at hj
            cases hj
        obtain ⟨ad', he', _, hc⟩ := slB_at h j hjl
        injection he' with he'
        subst he'
        rw [hc]
        rw [List.getElem?_map, List.getElem?_map, List.getElem?_eq_getElem hjl] at hj
        simp at hj
        subst hj
        simp [hjl])
      simpa [hn] using this
    rw [run_convert_bytes_string w src dst e _ n c hs he hd, run_bytesToString w ad n c (bs.map fun b => (b.toNat : Int)) hl, foldl_push_bytes, ← hfin]
    simp [strOfNums, ByteArray.empty, ByteArray.emptyWithCapacity]
    rfl

/-! ### Numbers of several bytes, the highest first -/
theorem wraps_i64 (n : Int) (h₀ : 0 ≤ n) (h₁ : n < 2 ^ 63) : IntKind.i64.wrap n = n := by rw [IntKind.wrap_i64]; omega
theorem wraps_u32 (n : Int) (h₀ : 0 ≤ n) (h₁ : n < 2 ^ 32) : IntKind.u32.wrap n = n := by rw [IntKind.wrap_u32]; omega
theorem wrap64_id (n : Int) (h₀ : -9223372036854775808 ≤ n) (h₁ : n ≤ 9223372036854775807) : wrap64 n = n := by unfold wrap64; omega
def beN (l : List UInt8) : Nat := l.foldl (fun n c => n * 256 + c.toNat) 0
theorem beN_snoc (l : List UInt8) (c : UInt8) : beN (l ++ [c]) = beN l * 256 + c.toNat := by simp [beN]
theorem beN_fold (l : List UInt8) : ∀ n : Nat, l.foldl (fun n c => n * 256 + c.toNat) n < (n + 1) * 256 ^ l.length := by
  induction l with
  | nil => intro n; simp
  | cons c l ih =>
    intro n
    have h := ih (n * 256 + c.toNat)
    have hc := c.toNat_lt
    rw [List.foldl_cons, List.length_cons, Nat.pow_succ]
    have h2 : (n * 256 + c.toNat + 1) * 256 ^ l.length ≤ ((n + 1) * 256) * 256 ^ l.length := Nat.mul_le_mul_right _ (by omega)
    have h3 : (n + 1) * (256 ^ l.length * 256) = ((n + 1) * 256) * 256 ^ l.length := by rw [Nat.mul_comm (256 ^ l.length), Nat.mul_assoc]
    omega
theorem beN_lt (l : List UInt8) : beN l < 256 ^ l.length := by
  have := beN_fold l 0
  simpa [beN] using this
theorem or_i64 (n b : Nat) (hn : n < 36028797018963968) (hb : b < 256) : bits .or .i64 (wrap64 ((n : Int) * 256)) (wrap64 (b : Int)) = ((n * 256 + b : Nat) : Int) := by
  rw [wrap64_id _ (by omega) (by omega), wrap64_id _ (by omega) (by omega), bits_join .i64 63 (by decide) wraps_i64 8 _ _ (by omega) (by omega) (by omega) (by omega) (by omega) (by omega)]
  omega
theorem or_u32 (n b : Nat) (hn : n < 16777216) (hb : b < 256) : bits .or .u32 (((n : Int) * 256) % 4294967296) ((b : Int) % 4294967296) = ((n * 256 + b : Nat) : Int) := by
  rw [Int.emod_eq_of_lt (by omega) (by omega), Int.emod_eq_of_lt (by omega) (by omega), bits_join .u32 32 (by decide) wraps_u32 8 _ _ (by omega) (by omega) (by omega) (by omega) (by omega) (by omega)]
  omega
theorem take_snocB {bs : List UInt8} {k : Nat} (h : k < bs.length) : bs.take (k + 1) = bs.take k ++ [bs.getD k 0] := by
  rw [List.take_succ_eq_append_getElem h]; simp [h]

/-! ### Steps that leave a state's block alone -/
theorem grown_alloc (w : World) (o : Obj) (row : Option Nat) : w.grownBy (w.alloc o) row := World.grownBy_alloc w o row
theorem grown_undrew {w w' : World} {row : Option Nat} (h : w.drew.grownBy w' row) : w.grownBy w' row := ⟨h.os, h.tape, h.output, h.size, h.block⟩
theorem grown_undrewN {w w' : World} {n : Nat} {row : Option Nat} (h : (w.drewN n).grownBy w' row) : w.grownBy w' row := ⟨h.os, h.tape, h.output, h.size, h.block⟩
theorem below_undrew {w w' : World} {B : Nat} (h : Below B w.drew w') : Below B w w' := ⟨h.os, h.tape, h.output, h.size, h.block⟩
theorem below_undrewN {w w' : World} {B n : Nat} (h : Below B (w.drewN n) w') : Below B w w' := ⟨h.os, h.tape, h.output, h.size, h.block⟩
theorem grown_setFar {w w2 : World} {row : Option Nat} (h : w.grownBy w2 row) {b j : Nat} (hB : w.heap.size ≤ b) (u : Value) : w.grownBy (w2.setCell ⟨b, j, none⟩ u) row :=
  ⟨h.os, h.tape, h.output, by simpa [World.setCell] using h.size, fun k hk hne => (Below.heap_setCell w2 _ u k (by simp; omega)).trans (h.block k hk hne)⟩
theorem grown_allocOn {w w2 : World} {row : Option Nat} (h : w.grownBy w2 row) (o : Obj) : w.grownBy (w2.alloc o) row := h.trans (World.grownBy_alloc w2 o row)
theorem grown_on {w w2 w3 : World} {row row2 : Option Nat} (h : w.grownBy w2 row) (k : w2.grownBy w3 row2) (hr : ∀ b, row2 = some b → row = some b ∨ w.heap.size ≤ b) : w.grownBy w3 row :=
  ⟨k.os.trans h.os, k.tape.trans h.tape, k.output.trans h.output, Nat.le_trans h.size k.size, fun i hi hne => (k.block i (Nat.lt_of_lt_of_le hi h.size) (fun e => by
    rcases hr i e.symm with h1 | h1
    · exact hne h1.symm
    · omega)).trans (h.block i hi hne)⟩
theorem grown_below {w w2 w3 : World} {row : Option Nat} (h : w.grownBy w2 row) (k : Below w2.heap.size w2 w3) : w.grownBy w3 row := grown_on h (grownOf k none) (fun b hb => by cases hb)
theorem below_grown {w w2 : World} {g : Nat} (h : w.grownBy w2 (some g)) (hg : w.heap.size ≤ g) : Below w.heap.size w w2 := ⟨h.os, h.tape, h.output, h.size, fun k hk => h.block k hk (by simp; omega)⟩

/-! ### append -/
section
variable {P : Program} {ops : Array Oper} {rest : List Oper} {o : Oper} {a : Act} {Q : Exit → Act → World → Prop} {w : World}
/-- append of what lies in a block known whole, onto a row of the call's own. -/
theorem app_lit (hgd : o.guard = none) (s x : Operand) (t : TypeId)
    (ho : o.op = .call { callee := .builtin .append, args := #[s, x], argTypes := #[t, t] })
    (e : TypeId) (z : Value) (size bytes : Nat) (ht : P.underlying t = some (.slice e)) (hinfo : (P.info? e).map (fun i => (i.zero, i.size, i.bytes)) = some (some z, size, bytes))
    (hzs : z.cells.size = size) (hsz : 0 < size) (hby : 0 < bytes)
    (base : Nat) (v : Value) (n : Nat) (xs : List Value) (hs : a.eval s = v) (hown : w.ownsRow base e size v n xs)
    (gs m c : Nat) (cs : Array Value) (hx : a.eval x = .slice (some ⟨gs, 0, none⟩) m c) (hblk : Blk w gs e cs) (hl : cs.size = m * size) (h1 : ∀ u ∈ cs.toList, u.oneCell' = true)
    (hm : 0 < m) (hbytes : (n + m) * bytes ≤ 140737488355328) (hbase : base ≤ w.heap.size)
    (h : ∀ g cap w', w'.ownsRow base e size (.slice (some ⟨g, 0, none⟩) (n + m) cap) (n + m) (xs ++ cs.toList) → w.grownBy w' v.ownBlock → (v.ownBlock = some g ∨ w.heap.size ≤ g) → g < w'.heap.size →
      wpList P ops Q rest (a.put o.dst (.slice (some ⟨g, 0, none⟩) (n + m) cap)) w') : wpList P ops Q (o :: rest) a w := by
  obtain ⟨i0, hi, hz0, hz1, hz2⟩ := info_parts hinfo
  have hmx : n + m ≤ maxLen := by
    have : n + m ≤ (n + m) * bytes := Nat.le_mul_of_pos_right _ hby
    unfold maxLen; omega
  exact wpList_append_lies w hgd s x t ho base e i0 z size bytes ht hi hz0 hz1 hz2 hzs hsz v n xs hs hown ⟨gs, 0, none⟩ m c cs.toList hx (by simpa using hl) (World.news_of_block hblk) h1 hm hmx hbytes hbase _ rfl
    fun g cap w' h2 h3 h4 h5 => h g cap w' h2 h3 (h4.imp id fun e => by omega) h5
/-- append of what lies in a block known whole, onto a full slice: always new memory. -/
theorem app_full (hgd : o.guard = none) (s x : Operand) (t : TypeId)
    (ho : o.op = .call { callee := .builtin .append, args := #[s, x], argTypes := #[t, t] })
    (e : TypeId) (z : Value) (size bytes : Nat) (ht : P.underlying t = some (.slice e)) (hinfo : (P.info? e).map (fun i => (i.zero, i.size, i.bytes)) = some (some z, size, bytes))
    (hzs : z.cells.size = size) (hsz : 0 < size) (hby : 0 < bytes)
    (ao : Option Addr) (n cap : Nat) (olds : List Value) (hs : a.eval s = .slice ao n cap) (hnone : ao = none → n = 0 ∧ cap = 0) (hlo : olds.length = n * size) (holds : ∀ b, ao = some b → ∀ j u, olds[j]? = some u → w.cell? (b.add j) = some u)
    (gs m c : Nat) (cs : Array Value) (hx : a.eval x = .slice (some ⟨gs, 0, none⟩) m c) (hblk : Blk w gs e cs) (hl : cs.size = m * size) (h1 : ∀ u ∈ cs.toList, u.oneCell' = true)
    (hm : 0 < m) (hfull : cap < n + m) (hbytes : (n + m) * bytes ≤ 140737488355328)
    (h : ∀ g cap w', w'.ownsRow w.heap.size e size (.slice (some ⟨g, 0, none⟩) (n + m) cap) (n + m) (olds ++ cs.toList) → Below w.heap.size w w' → w.heap.size ≤ g → g < w'.heap.size →
      wpList P ops Q rest (a.put o.dst (.slice (some ⟨g, 0, none⟩) (n + m) cap)) w') : wpList P ops Q (o :: rest) a w := by
  obtain ⟨i0, hi, hz0, hz1, hz2⟩ := info_parts hinfo
  have hmx : n + m ≤ maxLen := by
    have : n + m ≤ (n + m) * bytes := Nat.le_mul_of_pos_right _ hby
    unfold maxLen; omega
  refine wpList_append_grows w hgd s x t ho e i0 z size bytes ht hi hz0 hz1 hz2 hzs hsz ao n cap olds hs hnone hlo holds ⟨gs, 0, none⟩ m c cs.toList hx (by simpa using hl) (World.news_of_block hblk) h1 hfull hmx hbytes fun v' w' h2 h3 => ?_
  obtain ⟨g, cap', rfl, hb, hlt⟩ := h2.form (by omega)
  exact h g cap' w' h2 ⟨h3.os, h3.tape, h3.output, h3.size, fun k hk => h3.block k hk (by simp)⟩ hb hlt

/-- The same as one step of a region that draws. -/
theorem step_app_lit {K : Act → World → Prop} {E : Prop} (hgd : o.guard = none) (s x : Operand) (t : TypeId)
    (ho : o.op = .call { callee := .builtin .append, args := #[s, x], argTypes := #[t, t] })
    (e : TypeId) (z : Value) (size bytes : Nat) (ht : P.underlying t = some (.slice e)) (hinfo : (P.info? e).map (fun i => (i.zero, i.size, i.bytes)) = some (some z, size, bytes))
    (hzs : z.cells.size = size) (hsz : 0 < size) (hby : 0 < bytes)
    (base : Nat) (v : Value) (n : Nat) (xs : List Value) (hs : a.eval s = v) (hown : w.ownsRow base e size v n xs)
    (gs m c : Nat) (cs : Array Value) (hx : a.eval x = .slice (some ⟨gs, 0, none⟩) m c) (hblk : Blk w gs e cs) (hl : cs.size = m * size) (h1 : ∀ u ∈ cs.toList, u.oneCell' = true)
    (hm : 0 < m) (hbytes : (n + m) * bytes ≤ 140737488355328) (hbase : base ≤ w.heap.size)
    (h : ∀ g cap w', w'.ownsRow base e size (.slice (some ⟨g, 0, none⟩) (n + m) cap) (n + m) (xs ++ cs.toList) → w.grownBy w' v.ownBlock → (v.ownBlock = some g ∨ w.heap.size ≤ g) → g < w'.heap.size →
      K (a.put o.dst (.slice (some ⟨g, 0, none⟩) (n + m) cap)) w') : if Region.wanted o (yielded ops a.tmps) = true then Oper.wp P o a w K Q else E := by
  obtain ⟨i0, hi, hz0, hz1, hz2⟩ := info_parts hinfo
  have hmx : n + m ≤ maxLen := by
    have : n + m ≤ (n + m) * bytes := Nat.le_mul_of_pos_right _ hby
    unfold maxLen; omega
  exact step_append_lies w hgd s x t ho base e i0 z size bytes ht hi hz0 hz1 hz2 hzs hsz v n xs hs hown ⟨gs, 0, none⟩ m c cs.toList hx (by simpa using hl) (World.news_of_block hblk) h1 hm hmx hbytes hbase _ rfl
    fun g cap w' h2 h3 h4 h5 => h g cap w' h2 h3 (h4.imp id fun e => by omega) h5

theorem strCells_u8v (s : ByteArray) : Lib.strCells s = s.data.toList.map u8v := rfl
theorem run_app_str (base : Nat) (t u ty e : TypeId) (ht : P.underlying t = some (.slice e)) (hu : P.underlying u = some .string) (hinfo : (P.info? e).map (fun i => (i.zero, i.size, i.bytes)) = some (some (.int .u8 0), 1, 1))
    (v : Value) (n : Nat) (xs : List Value) (hown : w.ownsRow base e 1 v n xs) (s : ByteArray) (hbytes : n + s.size ≤ 140737488355328) (hbase : base ≤ w.heap.size) :
    ∃ v' w', (Builtin.append_ #[t, u] ty #[v, .string s]).run P w = .ok v' w' ∧ w'.ownsRow base e 1 v' (n + s.size) (xs ++ s.data.toList.map u8v) ∧ w.grownBy w' v.ownBlock ∧
      (v'.ownBlock = v.ownBlock ∨ ∃ k, v'.ownBlock = some k ∧ w.heap.size ≤ k) := by
  obtain ⟨i, hi, hz0, hz1, hz2⟩ := info_parts hinfo
  obtain ⟨v', w', hr, h2, h3, h4⟩ := Lib.run_append_own_string (P := P) w base t u ty e i ht hu hi hz0 hz1 hz2 v n xs hown s (by unfold maxLen; omega) hbytes hbase
  refine ⟨v', w', hr, h2, h3, ?_⟩
  rcases hown.2 with ⟨rfl, rfl⟩ | ⟨g, cap, cur, rfl, hbg, hg, hnc, hcm, hcs, htake⟩
  · by_cases hm : s.size = 0
    · have := h4.2 ⟨rfl, hm⟩
      exact .inl (by rw [this])
    · have hr2 := run_append_nil_string (P := P) w t u ty e i (.int .u8 0) ht hu hi hz0 s (by omega) (by omega) (by rw [hz2]; omega)
      rw [hr] at hr2
      injection hr2 with hv
      exact .inr ⟨w.heap.size, by rw [hv]; rfl, Nat.le_refl _⟩
  · by_cases hroom : n + s.size ≤ cap
    · have hcs' : cur.size = cap := by simpa using hcs
      have hr2 := Lib.run_append_room_string (P := P) w t u ty e i ht hu hi hz1 g n cap cur hg s hroom (by omega)
      rw [hr] at hr2
      injection hr2 with hv
      exact .inl (by rw [hv]; rfl)
    · have hxl : xs.length = n := by simpa using hown.1
      have holds : ∀ j u, xs[j]? = some u → w.cell? ((⟨g, 0, none⟩ : Addr).add j) = some u := hown.cells (g := g) rfl
      have hr2 := Lib.run_append_grow_string (P := P) w t u ty e i (.int .u8 0) ht hu hi hz0 ⟨g, 0, none⟩ n cap xs (by rw [hz1]; simpa using hxl) holds s (by omega) (by omega) (by rw [hz2]; exact growslice_fits (by omega) (by omega))
      rw [hr] at hr2
      injection hr2 with hv
      exact .inr ⟨w.heap.size, by rw [hv]; rfl, Nat.le_refl _⟩
theorem wp_app_str {K : Act → World → Prop} (sl x : Operand) (t u : TypeId)
    (ho : o.op = .call { callee := .builtin .append, args := #[sl, x], argTypes := #[t, u] })
    (base : Nat) (e : TypeId) (ht : P.underlying t = some (.slice e)) (hu : P.underlying u = some .string) (hinfo : (P.info? e).map (fun i => (i.zero, i.size, i.bytes)) = some (some (.int .u8 0), 1, 1))
    (v : Value) (n : Nat) (xs : List Value) (hs : a.eval sl = v) (hown : w.ownsRow base e 1 v n xs) (s : ByteArray) (hx : a.eval x = .string s) (hbytes : n + s.size ≤ 140737488355328) (hbase : base ≤ w.heap.size)
    (h : ∀ v' w', w'.ownsRow base e 1 v' (n + s.size) (xs ++ s.data.toList.map u8v) → w.grownBy w' v.ownBlock → (v'.ownBlock = v.ownBlock ∨ ∃ k, v'.ownBlock = some k ∧ w.heap.size ≤ k) → K (a.put o.dst v') w') : o.wp P a w K Q := by
  obtain ⟨v', w', hr, h2, h3, h4⟩ := run_app_str (P := P) (w := w) base t u o.type e ht hu hinfo v n xs hown s hbytes hbase
  unfold Oper.wp execOp
  simp only [ho, resolve, invoke, builtin, Sem.run_bind, Sem.run_pure, Result.andThen_ok, List.map_toArray, List.map_cons, List.map_nil, hs, hx, hr]
  exact h v' w' h2 h3 h4
theorem app_str (hgd : o.guard = none) (sl x : Operand) (t u : TypeId)
    (ho : o.op = .call { callee := .builtin .append, args := #[sl, x], argTypes := #[t, u] })
    (base : Nat) (e : TypeId) (ht : P.underlying t = some (.slice e)) (hu : P.underlying u = some .string) (hinfo : (P.info? e).map (fun i => (i.zero, i.size, i.bytes)) = some (some (.int .u8 0), 1, 1))
    (v : Value) (n : Nat) (xs : List Value) (hs : a.eval sl = v) (hown : w.ownsRow base e 1 v n xs) (s : ByteArray) (hx : a.eval x = .string s) (hbytes : n + s.size ≤ 140737488355328) (hbase : base ≤ w.heap.size)
    (h : ∀ v' w', w'.ownsRow base e 1 v' (n + s.size) (xs ++ s.data.toList.map u8v) → w.grownBy w' v.ownBlock → (v'.ownBlock = v.ownBlock ∨ ∃ k, v'.ownBlock = some k ∧ w.heap.size ≤ k) → wpList P ops Q rest (a.put o.dst v') w') : wpList P ops Q (o :: rest) a w :=
  wpList_plain hgd fun _ hK => wp_app_str sl x t u ho base e ht hu hinfo v n xs hs hown s hx hbytes hbase fun v' w' h2 h3 h4 => hK _ _ (h v' w' h2 h3 h4)
theorem step_app_str {K : Act → World → Prop} {E : Prop} (hgd : o.guard = none) (sl x : Operand) (t u : TypeId)
    (ho : o.op = .call { callee := .builtin .append, args := #[sl, x], argTypes := #[t, u] })
    (base : Nat) (e : TypeId) (ht : P.underlying t = some (.slice e)) (hu : P.underlying u = some .string) (hinfo : (P.info? e).map (fun i => (i.zero, i.size, i.bytes)) = some (some (.int .u8 0), 1, 1))
    (v : Value) (n : Nat) (xs : List Value) (hs : a.eval sl = v) (hown : w.ownsRow base e 1 v n xs) (s : ByteArray) (hx : a.eval x = .string s) (hbytes : n + s.size ≤ 140737488355328) (hbase : base ≤ w.heap.size)
    (h : ∀ v' w', w'.ownsRow base e 1 v' (n + s.size) (xs ++ s.data.toList.map u8v) → w.grownBy w' v.ownBlock → (v'.ownBlock = v.ownBlock ∨ ∃ k, v'.ownBlock = some k ∧ w.heap.size ≤ k) → K (a.put o.dst v') w') : if Region.wanted o (yielded ops a.tmps) = true then Oper.wp P o a w K Q else E := by
  have hw : Region.wanted o (yielded ops a.tmps) = true := by simp [Region.wanted, hgd]
  rw [if_pos hw]
  exact wp_app_str sl x t u ho base e ht hu hinfo v n xs hs hown s hx hbytes hbase h
end
end Go.Proofs.Ytamaihlpdebekaa
