/- From a row's arguments (readable data) to what they read as. No program in it. -/
import Derived.Test.YtamaihlpdebekaaWords
import Derived.Deep.Slices
import Derived.Deep.Strs
import Derived.SizedLaws
import Derived.WideShapes
namespace Go.Proofs.Ytamaihlpdebekaa
open Go.RowKit Go.WideShapes
set_option linter.unusedVariables false
set_option linter.unusedSimpArgs false

/-- What is readable at the type t reads by E as something good. -/
structure Opens (P : Program) (t : TypeId) {T : Type} (E : En T) (G : T → Prop) : Prop where
  op : ∀ {H : Type} {enc : TypeId × Value → H} {w : World} {fuel : Nat} {cs : List Value} {d : DataW H} {ps : List MemPlace},
    DataW.trod enc P w 0 (fun _ => true) true fuel t cs = some (d, ps) → (∀ n ∈ d.weights P t, n ≤ reachBytes) → ∃ x, E.rel w (fun k => k < w.heap.size) x cs ∧ G x

theorem list_each {T : Type} {p : Nat → T → Prop} : ∀ n, (∀ i, i < n → ∃ x, p i x) → ∃ xs : List T, xs.length = n ∧ ∀ i x, xs[i]? = some x → p i x
  | 0, _ => ⟨[], rfl, fun i x h => by simp at h⟩
  | n + 1, h => by
    obtain ⟨xs, hl, hx⟩ := list_each n (fun i hi => h i (by omega))
    obtain ⟨x, hp⟩ := h n (by omega)
    refine ⟨xs ++ [x], by simp [hl], fun i y hy => ?_⟩
    rcases Nat.lt_or_ge i n with hi | hi
    · rw [List.getElem?_append_left (by omega)] at hy
      exact hx i y hy
    · have hin : i = n := by
        have := (List.getElem?_eq_some_iff.1 hy).1
        simp at this
        omega
      subst hin
      rw [← hl, List.getElem?_concat_length] at hy
      cases hy
      exact hp
theorem weights_all {H : Type} {P : Program} {e : TypeId} : ∀ {l : List (DataW H)} {d : DataW H}, d ∈ l → ∀ n ∈ d.weights P e, n ∈ DataW.weightsAll P e l
  | d0 :: l, d, hd, n, hn => by
    rw [DataW.weightsAll, List.mem_append]
    rcases List.mem_cons.1 hd with rfl | hd
    · exact .inl hn
    · exact .inr (weights_all hd n hn)

section
variable {P : Program} {t : TypeId}
theorem opens_int {k : IntKind} (ht : P.underlying t = some (.int k)) : Opens P t (En.flat 1 (fun n => [.int k n]) (fun _ => rfl)) (fun n => (Lit.int k n).wf = true) :=
  ⟨fun h hw => by
    obtain ⟨n, rfl, hx, hwf⟩ := DataW.trod_int ht h
    exact ⟨n, rfl, hwf⟩⟩
theorem opens_str (ht : P.underlying t = some .string) : Opens P t (En.flat 1 (fun s : ByteArray => [.string s]) (fun _ => rfl)) (fun s => s.size ≤ reachBytes) :=
  ⟨fun h hw => by
    obtain ⟨s, rfl, hx, _⟩ := DataW.trod_string ht h
    cases hx
    exact ⟨s, rfl, by simpa [DataW.weights] using hw⟩⟩
theorem Opens.conv {T U : Type} {E : En T} {E' : En U} {G : T → Prop} {G' : U → Prop} (h : Opens P t E G) (f : ∀ {w : World} {S : Nat → Prop} {x : T} {cs : List Value}, E.rel w S x cs → G x → ∃ y, E'.rel w S y cs ∧ G' y) : Opens P t E' G' :=
  ⟨fun h1 hw => by
    obtain ⟨x, hx, hg⟩ := h.op h1 hw
    exact f hx hg⟩
theorem opens_sl {e : TypeId} {T : Type} {E : En T} {G : T → Prop} (ht : P.underlying t = some (.slice e)) (hc : P.cellsOf e = E.sz) (hp : 0 < E.sz) (he : Opens P e E G) :
    Opens P t (En.sl E) (fun xs => xs.length ≤ maxLen ∧ xs.length * P.bytesOf e ≤ reachBytes ∧ ∀ x ∈ xs, G x) :=
  ⟨fun {H enc w fuel cs d ps} h hw => by
    rcases Deep.open_slice ht h with ⟨rfl, hx⟩ | ⟨a, len, cap, m, n, D, Pl, rfl, _, hl, hm, hmm, hx, hel⟩
    · exact ⟨[], ⟨_, rfl, En.Sl.nil E w _ none 0⟩, Nat.zero_le _, by simp, by simp⟩
    · simp only [if_true] at hmm
      subst hmm
      injection hx with hx _
      subst hx
      rw [DataW.weights, ht] at hw
      simp only at hw
      have hwl : ((List.range len).map D).length * P.bytesOf e ≤ reachBytes := Nat.le_trans (Nat.mul_le_mul_right _ (Nat.le_add_right _ _)) (hw _ (List.mem_cons_self ..))
      rw [List.length_map, List.length_range] at hwl
      obtain ⟨xs, hxl, hxs⟩ := list_each (p := fun i x => (∃ cs', E.rel w (fun k => k < w.heap.size) x cs' ∧ w.cells? 0 (a.add (i * P.cellsOf e)) (P.cellsOf e) = some cs') ∧ G x) len (fun i hi => by
        obtain ⟨cs', h1, h2⟩ := hel i (by omega)
        obtain ⟨x, hx, hg⟩ := he.op h2 (fun k hk => hw k (List.mem_cons_of_mem _ (List.mem_append_left _ (weights_all (List.mem_map.2 ⟨i, List.mem_range.2 hi, rfl⟩) k hk))))
        exact ⟨x, ⟨cs', hx, h1⟩, hg⟩)
      refine ⟨xs, ⟨_, rfl, some a, m, by rw [hxl], by omega, fun i x hi => ?_⟩, by omega, by rw [hxl]; exact hwl, fun x hx => by
        obtain ⟨i, hi⟩ := List.getElem?_of_mem hx
        exact (hxs i x hi).2⟩
      obtain ⟨⟨cs', hr, hcs⟩, _⟩ := hxs i x hi
      obtain ⟨_, hlen, hcell⟩ := World.cells?_some hcs
      have hat : ∀ j u, cs'[j]? = some u → w.cell? (a.add (i * E.sz + j)) = some u := fun j u hj => by
        have hjl := (List.getElem?_eq_some_iff.1 hj).1
        have := hcell j (by omega)
        rw [hj, add_of_add, hc] at this
        exact this
      refine ⟨a, cs', rfl, ?_, hr, hat⟩
      have h0 : 0 < cs'.length := by rw [hlen, hc]; exact hp
      have := World.block_lt_of_cell? _ _ (hat 0 _ (List.getElem?_eq_getElem h0))
      rw [block_of_add] at this
      exact this⟩
theorem opens_struct2 {f0 f1 : Field} {T0 T1 : Type} {E0 : En T0} {E1 : En T1} {G0 : T0 → Prop} {G1 : T1 → Prop} (ht : P.underlying t = some (.struct #[f0, f1])) (h0 : Opens P f0.type E0 G0) (h1 : Opens P f1.type E1 G1)
    (ho : f0.offset = 0 ∧ f1.offset = E0.sz ∧ P.cellsOf f0.type = E0.sz ∧ P.cellsOf f1.type = E1.sz ∧ P.cellsOf t = E0.sz + E1.sz) : Opens P t (En.pair E0 E1) (fun x => G0 x.1 ∧ G1 x.2) :=
  ⟨fun {H enc w fuel cs d ps} h hw => by
    obtain ⟨xs, n, _, hx, hl, hlen, hf⟩ := DataW.trod_struct ht h
    obtain ⟨o0, o1, c0, c1, ct⟩ := ho
    match xs, hlen with
    | [y0, y1], _ =>
      injection hx with hx _
      subst hx
      rw [DataW.weights, ht] at hw
      have k0 := hf 0 f0 rfl
      have k1 := hf 1 f1 rfl
      rw [o0, c0, List.drop_zero] at k0
      rw [o1, c1] at k1
      obtain ⟨x0, hx0, hg0⟩ := h0.op (d := y0.1) (ps := y0.2) k0 (fun k hk => hw k (by simp [DataW.weightsEach]; exact .inl hk))
      obtain ⟨x1, hx1, hg1⟩ := h1.op (d := y1.1) (ps := y1.2) k1 (fun k hk => hw k (by simp [DataW.weightsEach]; exact .inr hk))
      refine ⟨(x0, x1), ⟨_, _, ?_, hx0, hx1⟩, hg0, hg1⟩
      rw [List.take_of_length_le (l := cs.drop E0.sz) (by rw [List.length_drop]; omega), List.take_append_drop]⟩
theorem opens_struct3 {f0 f1 f2 : Field} {T0 T1 T2 : Type} {E0 : En T0} {E1 : En T1} {E2 : En T2} {G0 : T0 → Prop} {G1 : T1 → Prop} {G2 : T2 → Prop} (ht : P.underlying t = some (.struct #[f0, f1, f2])) (h0 : Opens P f0.type E0 G0) (h1 : Opens P f1.type E1 G1) (h2 : Opens P f2.type E2 G2)
    (ho : f0.offset = 0 ∧ f1.offset = E0.sz ∧ f2.offset = E0.sz + E1.sz ∧ P.cellsOf f0.type = E0.sz ∧ P.cellsOf f1.type = E1.sz ∧ P.cellsOf f2.type = E2.sz ∧ P.cellsOf t = E0.sz + E1.sz + E2.sz) : Opens P t (En.pair E0 (En.pair E1 E2)) (fun x => G0 x.1 ∧ G1 x.2.1 ∧ G2 x.2.2) :=
  ⟨fun {H enc w fuel cs d ps} h hw => by
    obtain ⟨xs, n, _, hx, hl, hlen, hf⟩ := DataW.trod_struct ht h
    obtain ⟨o0, o1, o2, c0, c1, c2, ct⟩ := ho
    match xs, hlen with
    | [y0, y1, y2], _ =>
      injection hx with hx _
      subst hx
      rw [DataW.weights, ht] at hw
      have k0 := hf 0 f0 rfl
      have k1 := hf 1 f1 rfl
      have k2 := hf 2 f2 rfl
      rw [o0, c0, List.drop_zero] at k0
      rw [o1, c1] at k1
      rw [o2, c2] at k2
      obtain ⟨x0, hx0, hg0⟩ := h0.op (d := y0.1) (ps := y0.2) k0 (fun k hk => hw k (by simp [DataW.weightsEach]; exact .inl hk))
      obtain ⟨x1, hx1, hg1⟩ := h1.op (d := y1.1) (ps := y1.2) k1 (fun k hk => hw k (by simp [DataW.weightsEach]; exact .inr (.inl hk)))
      obtain ⟨x2, hx2, hg2⟩ := h2.op (d := y2.1) (ps := y2.2) k2 (fun k hk => hw k (by simp [DataW.weightsEach]; exact .inr (.inr hk)))
      refine ⟨(x0, x1, x2), ⟨_, _, ?_, hx0, _, _, rfl, hx1, hx2⟩, hg0, hg1, hg2⟩
      rw [List.take_of_length_le (l := cs.drop (E0.sz + E1.sz)) (by rw [List.length_drop]; omega), ← List.drop_drop, List.take_append_drop, List.take_append_drop]⟩
end

/-! ### A row's arguments -/
section
variable {H : Type} {enc : TypeId × Value → H} {P : Program} {W : World} {t : TypeId} {v : Value} {d : DataW H} {p : List MemPlace}
theorem sized_at {ts : List TypeId} {ds : List (DataW H)} {j : Nat} (h : (DataW.weightsEach P ts ds).all (· ≤ reachBytes) = true) (ht : ts[j]? = some t) (hd : ds[j]? = some d) : ∀ n ∈ d.weights P t, n ≤ reachBytes := fun n hn => by
  have := List.all_eq_true.1 h _ (DataW.weights_mem_each ht hd n hn)
  simpa using this
theorem arg_sl {e : TypeId} {T : Type} {E : En T} {G : List T → Prop} {r : Reach} {base : Nat} (ho : Opens P t (En.sl E) G) (ht : P.underlying t = some (.slice e)) (hv : Value.okWide P W r base t v)
    (h : DataW.Trod enc P W 0 (fun _ => true) true t v d p) (hw : ∀ n ∈ d.weights P t, n ≤ reachBytes) : ∃ xs, E.Rd W v xs ∧ G xs := by
  obtain ⟨a, len, cap, rfl⟩ := okWide_slice ht hv
  obtain ⟨fuel, hf⟩ := h
  obtain ⟨xs, ⟨v', he, hs⟩, hg⟩ := ho.op hf hw
  have he' : Value.slice a len cap = v' := by simpa [Value.cells] using he
  subst he'
  exact ⟨xs, hs, hg⟩
theorem arg_agg {fs : Array Field} {T : Type} {E : En T} {G : T → Prop} {r : Reach} {base : Nat} (ho : Opens P t E G) (ht : P.underlying t = some (.struct fs)) (hv : Value.okWide P W r base t v)
    (h : DataW.Trod enc P W 0 (fun _ => true) true t v d p) (hw : ∀ n ∈ d.weights P t, n ≤ reachBytes) : ∃ cs x, v = .agg cs ∧ E.rel W (fun k => k < W.heap.size) x cs.toList ∧ G x := by
  obtain ⟨cs, rfl, _⟩ := okWide_struct ht hv
  obtain ⟨fuel, hf⟩ := h
  obtain ⟨x, hx, hg⟩ := ho.op hf hw
  exact ⟨cs, x, rfl, hx, hg⟩
theorem arg_lt (h : DataW.Trod enc P W 0 (fun _ => true) true t v d p) : ∀ x ∈ p, x.block < W.heap.size := by
  obtain ⟨m, hm⟩ := h
  exact DataW.trod_lt m _ _ _ hm
theorem arr_of {cs : Array Value} {l : List Value} (h : cs.toList = l) : cs = l.toArray := by rw [← h]
end
end Go.Proofs.Ytamaihlpdebekaa
