/- first: the small case. -/
import Derived.Test.YtamaihlpdebekaaFM
namespace Go.Proofs.Ytamaihlpdebekaa
open Go.RowKit
set_option linter.unusedVariables false
set_option linter.unusedSimpArgs false

/-- A slice over a block known whole. -/
theorem blk_sl {T : Type} {E : En T} {w : World} {S : Nat → Prop} {g : Nat} {e : TypeId} {cs : Array Value} (h : Blk w g e cs) {n c : Nat} {xs : List T} (hn : n = xs.length) (hc : n ≤ c) (hS : S g)
    (hel : ∀ i x, xs[i]? = some x → ∃ d, E.rel w S x d ∧ ∀ j u, d[j]? = some u → cs[i * E.sz + j]? = some u) : E.Sl w S (.slice (some ⟨g, 0, none⟩) n c) xs := by
  subst hn
  refine ⟨_, c, rfl, hc, fun i x hi => ?_⟩
  obtain ⟨d, hr, hd⟩ := hel i x hi
  exact ⟨⟨g, 0, none⟩, d, rfl, hS, hr, fun j u hj => by rw [add_lit, h.cell]; exact hd j u hj⟩
theorem blk_flat {T : Type} {f : T → List Value} {m : Nat} {hm : ∀ x, (f x).length = m} {w : World} {S : Nat → Prop} {g : Nat} {e : TypeId} {cs : Array Value} (h : Blk w g e cs) {n c : Nat} {xs : List T} (hn : n = xs.length) (hc : n ≤ c) (hS : S g)
    (hcs : cs.toList = xs.flatMap f) : (En.flat m f hm).Sl w S (.slice (some ⟨g, 0, none⟩) n c) xs :=
  blk_sl h hn hc hS fun i x hi => ⟨f x, rfl, fun j u hj => by
    have hjm : j < m := by
      have := hm x
      rcases Nat.lt_or_ge j m with h | h
      · exact h
      · rw [List.getElem?_eq_none (by omega)] at hj; cases hj
    have := flatMap_get hm xs i x j hi hjm
    rw [← hcs] at this
    show cs[i * m + j]? = some u
    rw [← hj, ← this]
    simp⟩

def f0 : First := ⟨[3, 5], [⟨7, 5, [⟨⟨#[97]⟩, -1, 4⟩]⟩]⟩
def ev0 : List Attr := [⟨⟨#[97]⟩, ⟨1, 4, ⟨#[]⟩⟩⟩]
def bytes0 : List UInt8 := [82, 83, 84, 1, 2, 0, 3, 0, 5, 1, 0, 7, 0, 5, 1, 1, 97, 255, 255, 255, 255, 0, 0, 0, 4]
theorem f0_right : f0.right = true := by decide +kernel
theorem f0_enc : encF f0 = bytes0 := by decide +kernel
theorem f0_dec : decodeF bytes0 = (f0, 0) := by kernel_rfl
theorem dec_kind : decodeF [82, 83, 84, 2] = (⟨[], []⟩, 11) := by kernel_rfl
theorem dec_more : decodeF (bytes0 ++ [0]) = (⟨[], []⟩, 5) := by kernel_rfl
theorem dec_lim : decodeF [82, 83, 84, 1, 17] = (⟨[], []⟩, 4) := by kernel_rfl
theorem f0_next : fnext f0 ev0 3 = [5] := by kernel_rfl
theorem f0_next0 : fnext f0 [] 3 = [] := by kernel_rfl
theorem meets_nil : fmeets [] [] = true := rfl

theorem encode_f0 (vL vS : Value) (w : World) (hL : enI64.Rd w vL f0.links) (hS : enSub.Rd w vS f0.subs) :
    Calls Try.prog 10 #[.agg #[vL, vS]] w fun e w' => ∃ v, e = .returned (.tuple #[v, .bool true]) ∧ OwnB 5 w' w.heap.size v bytes0 ∧ Below w.heap.size w w' := by
  have h := encode10 vL vS f0 w hL hS (by decide) (by decide)
  unfold EncPost at h
  rw [f0_right, if_pos rfl, f0_enc] at h
  exact h

theorem lit_rd (w : World) (fr : Nat × Nat) (cs : Array Value) (g : Nat) (bs : List UInt8) (n c : Nat) (hg : g = w.heap.size) (hcs : cs.toList = bs.map u8v) (hn : n = bs.length) (hc : n ≤ c) :
    enU8.Rd (w.alloc (.cells cs 5 fr)) (.slice (some ⟨g, 0, none⟩) n c) bs := by
  subst hg hn
  refine ⟨_, c, rfl, hc, fun i x hi => ⟨⟨w.heap.size, 0, none⟩, [u8v x], rfl, by simp, rfl, fun j u hj => ?_⟩⟩
  have hj0 : j = 0 := by
    rcases j with _ | j
    · rfl
    · simp at hj
  subst hj0
  rw [add_lit, cell_of_row _ _ _ _ _ _ (heap_alloc_new w _)]
  have : cs.toList[i]? = some (u8v x) := by rw [hcs, List.getElem?_map, hi]; rfl
  simp at hj
  subst hj
  rw [show i * enU8.sz + 0 = i from by show i * 1 + 0 = i; omega]
  simpa using this

section
variable {P : Program} {ops : Array Oper} {rest : List Oper} {o : Oper} {a : Act} {Q : Exit → Act → World → Prop} {w : World}
/-- append([]byte{}, b...): always new memory. -/
theorem app_fresh (hgd : o.guard = none) (s x : Operand) (t : TypeId)
    (ho : o.op = .call { callee := .builtin .append, args := #[s, x], argTypes := #[t, t] })
    (e : TypeId) (ht : P.underlying t = some (.slice e)) (hinfo : (P.info? e).map (fun i => (i.zero, i.size, i.bytes)) = some (some (.int .u8 0), 1, 1))
    (ao : Option Addr) (hs : a.eval s = .slice ao 0 0) (A : Option Addr) (m c : Nat) (bs : List UInt8) (S : Nat → Prop) (hx : a.eval x = .slice A m c) (hr : enU8.Sl w S (.slice A m c) bs) (hm : 0 < m) (hbytes : m ≤ 140737488355328)
    (h : ∀ g cap w', OwnB e w' w.heap.size (.slice (some ⟨g, 0, none⟩) m cap) bs → Below w.heap.size w w' → wpList P ops Q rest (a.put o.dst (.slice (some ⟨g, 0, none⟩) m cap)) w') : wpList P ops Q (o :: rest) a w := by
  obtain ⟨i0, hi, hz0, hz1, hz2⟩ := info_parts hinfo
  obtain ⟨hml, _⟩ := hr.len
  obtain ⟨ad, rfl, _, _⟩ := slB_at hr 0 (by omega)
  refine wpList_append_grows w hgd s x t ho e i0 (.int .u8 0) 1 1 ht hi hz0 hz1 hz2 rfl (by decide) ao 0 0 [] hs (fun _ => ⟨rfl, rfl⟩) rfl (fun b _ j u hj => by simp at hj) ad m c (bs.map u8v) hx (by simp [hml]) (fun j u hj => ?_) (fun u hu => ?_) (by omega) (by unfold maxLen; omega) (by omega) fun v' w' h2 h3 => ?_
  · rw [List.getElem?_map] at hj
    have hjl : j < bs.length := by
      rcases Nat.lt_or_ge j bs.length with h | h
      · exact h
      · rw [List.getElem?_eq_none h] at hj; cases hj
    obtain ⟨ad', he, _, hc⟩ := slB_at hr j hjl
    injection he with he
    subst he
    rw [hc]
    rw [List.getElem?_eq_getElem hjl] at hj
    simp at hj
    rw [← hj]
    simp [u8v, hjl]
  · obtain ⟨b, _, rfl⟩ := List.mem_map.1 hu
    rfl
  · rw [Nat.zero_add, List.nil_append] at h2
    obtain ⟨g, cap', rfl, hb, hlt⟩ := h2.form hm
    exact h g cap' w' (by unfold OwnB; rw [← hml]; exact h2) ⟨h3.os, h3.tape, h3.output, h3.size, fun k hk => h3.block k hk (by simp)⟩
end

/-- What a call of Decode hands back, its slices written out. -/
theorem decode_to (v : Value) (bs : List UInt8) (r : First × Int) (hr : decodeF bs = r) (w : World) (hb : enU8.Rd w v bs) (hl : bs.length ≤ maxLen) :
    Calls Try.prog 12 #[v] w fun e w' => ∃ A n c A' n' c', e = .returned (.tuple #[.agg #[.slice A n c, .slice A' n' c'], .int .i64 r.2]) ∧ enI64.Rd w' (.slice A n c) r.1.links ∧ enSub.Rd w' (.slice A' n' c') r.1.subs ∧ Below w.heap.size w w' := by
  refine (decode12 v bs w hb hl).mono ?_
  rw [hr]
  rintro e w' ⟨vL, vS, rfl, hL, hS, hB⟩
  obtain ⟨A, c, rfl, _⟩ := hL.form
  obtain ⟨A', c', rfl, _⟩ := hS.form
  exact ⟨A, _, c, A', _, c', rfl, hL, hS, hB⟩

structure SmallInv (w0 : World) (B : Nat) (sL sS : Value) (w : World) : Prop where
  l : enI64.Rd w sL f0.links
  s : enSub.Rd w sS f0.subs
  b : Blk w B 25 #[sL, sS]
  bel : Below w0.heap.size w0 w
theorem SmallInv.step {w0 : World} {B : Nat} {sL sS : Value} {w w' : World} (h : SmallInv w0 B sL sS w) (hb : Below w.heap.size w w') : SmallInv w0 B sL sS w' :=
  ⟨h.l.below hb, h.s.below hb, h.b.below hb h.b.lt, below_step h.bel hb⟩

set_option maxHeartbeats 4000000 in
set_option maxRecDepth 100000 in
theorem small8 (w : World) : Calls Try.prog 8 #[] w fun e w' => e = .returned (.bool true) ∧ Below w.heap.size w w' := by
  have hb0 : Below w.heap.size w ((((w.alloc (.cells #[.int .i64 3, .int .i64 5] 3)).alloc (.cells #[.string ⟨#[97]⟩, .int .i64 (-1), .int .i64 4] 46)).alloc (.cells #[.int .i64 7, .int .i64 5, .slice (some ⟨w.heap.size + 1, 0, none⟩) 1 1] 40)).alloc (.cells #[.slice (some ⟨w.heap.size, 0, none⟩) 2 2, .slice (some ⟨w.heap.size + 1 + 1, 0, none⟩) 1 1] 25)) := below_alloc (below_alloc (below_alloc ((Below.refl _ _).alloc (Nat.le_refl _) _) _) _) _
  have k0 : Blk ((((w.alloc (.cells #[.int .i64 3, .int .i64 5] 3)).alloc (.cells #[.string ⟨#[97]⟩, .int .i64 (-1), .int .i64 4] 46)).alloc (.cells #[.int .i64 7, .int .i64 5, .slice (some ⟨w.heap.size + 1, 0, none⟩) 1 1] 40)).alloc (.cells #[.slice (some ⟨w.heap.size, 0, none⟩) 2 2, .slice (some ⟨w.heap.size + 1 + 1, 0, none⟩) 1 1] 25)) w.heap.size 3 #[.int .i64 3, .int .i64 5] := (((Blk.new w 3 _).alloc _).alloc _).alloc _
  have k1 : Blk ((((w.alloc (.cells #[.int .i64 3, .int .i64 5] 3)).alloc (.cells #[.string ⟨#[97]⟩, .int .i64 (-1), .int .i64 4] 46)).alloc (.cells #[.int .i64 7, .int .i64 5, .slice (some ⟨w.heap.size + 1, 0, none⟩) 1 1] 40)).alloc (.cells #[.slice (some ⟨w.heap.size, 0, none⟩) 2 2, .slice (some ⟨w.heap.size + 1 + 1, 0, none⟩) 1 1] 25)) (w.heap.size + 1) 46 #[.string ⟨#[97]⟩, .int .i64 (-1), .int .i64 4] := by
    have := Blk.new (w.alloc (.cells #[.int .i64 3, .int .i64 5] 3)) 46 #[.string ⟨#[97]⟩, .int .i64 (-1), .int .i64 4]
    rw [World.size_alloc] at this
    exact (this.alloc _).alloc _
  have k2 : Blk ((((w.alloc (.cells #[.int .i64 3, .int .i64 5] 3)).alloc (.cells #[.string ⟨#[97]⟩, .int .i64 (-1), .int .i64 4] 46)).alloc (.cells #[.int .i64 7, .int .i64 5, .slice (some ⟨w.heap.size + 1, 0, none⟩) 1 1] 40)).alloc (.cells #[.slice (some ⟨w.heap.size, 0, none⟩) 2 2, .slice (some ⟨w.heap.size + 1 + 1, 0, none⟩) 1 1] 25)) (w.heap.size + 1 + 1) 40 #[.int .i64 7, .int .i64 5, .slice (some ⟨w.heap.size + 1, 0, none⟩) 1 1] := by
    have := Blk.new ((w.alloc (.cells #[.int .i64 3, .int .i64 5] 3)).alloc (.cells #[.string ⟨#[97]⟩, .int .i64 (-1), .int .i64 4] 46)) 40 #[.int .i64 7, .int .i64 5, .slice (some ⟨w.heap.size + 1, 0, none⟩) 1 1]
    rw [World.size_alloc, World.size_alloc] at this
    exact this.alloc _
  have k3 : Blk ((((w.alloc (.cells #[.int .i64 3, .int .i64 5] 3)).alloc (.cells #[.string ⟨#[97]⟩, .int .i64 (-1), .int .i64 4] 46)).alloc (.cells #[.int .i64 7, .int .i64 5, .slice (some ⟨w.heap.size + 1, 0, none⟩) 1 1] 40)).alloc (.cells #[.slice (some ⟨w.heap.size, 0, none⟩) 2 2, .slice (some ⟨w.heap.size + 1 + 1, 0, none⟩) 1 1] 25)) (w.heap.size + 1 + 1 + 1) 25 #[.slice (some ⟨w.heap.size, 0, none⟩) 2 2, .slice (some ⟨w.heap.size + 1 + 1, 0, none⟩) 1 1] := by
    have := Blk.new (((w.alloc (.cells #[.int .i64 3, .int .i64 5] 3)).alloc (.cells #[.string ⟨#[97]⟩, .int .i64 (-1), .int .i64 4] 46)).alloc (.cells #[.int .i64 7, .int .i64 5, .slice (some ⟨w.heap.size + 1, 0, none⟩) 1 1] 40)) 25 #[.slice (some ⟨w.heap.size, 0, none⟩) 2 2, .slice (some ⟨w.heap.size + 1 + 1, 0, none⟩) 1 1]
    rw [World.size_alloc, World.size_alloc, World.size_alloc] at this
    exact this
  have hsz : ((((w.alloc (.cells #[.int .i64 3, .int .i64 5] 3)).alloc (.cells #[.string ⟨#[97]⟩, .int .i64 (-1), .int .i64 4] 46)).alloc (.cells #[.int .i64 7, .int .i64 5, .slice (some ⟨w.heap.size + 1, 0, none⟩) 1 1] 40)).alloc (.cells #[.slice (some ⟨w.heap.size, 0, none⟩) 2 2, .slice (some ⟨w.heap.size + 1 + 1, 0, none⟩) 1 1] 25)).heap.size = w.heap.size + 4 := by simp
  obtain ⟨W0, hW0⟩ : ∃ W0, W0 = ((((w.alloc (.cells #[.int .i64 3, .int .i64 5] 3)).alloc (.cells #[.string ⟨#[97]⟩, .int .i64 (-1), .int .i64 4] 46)).alloc (.cells #[.int .i64 7, .int .i64 5, .slice (some ⟨w.heap.size + 1, 0, none⟩) 1 1] 40)).alloc (.cells #[.slice (some ⟨w.heap.size, 0, none⟩) 2 2, .slice (some ⟨w.heap.size + 1 + 1, 0, none⟩) 1 1] 25)) := ⟨_, rfl⟩
  rw [← hW0] at hb0 k0 k1 k2 k3 hsz
  have HW0 := Aside.mk hW0
  clear hW0
  have hL0 : enI64.Rd W0 (.slice (some ⟨w.heap.size, 0, none⟩) 2 2) f0.links := blk_flat k0 rfl (by decide) (by show w.heap.size < W0.heap.size; omega) rfl
  have hR0 : enRng.Rd W0 (.slice (some ⟨w.heap.size + 1, 0, none⟩) 1 1) [⟨⟨#[97]⟩, -1, 4⟩] := blk_flat k1 rfl (by decide) (by show w.heap.size + 1 < W0.heap.size; omega) rfl
  have hS0 : enSub.Rd W0 (.slice (some ⟨w.heap.size + 1 + 1, 0, none⟩) 1 1) f0.subs := blk_sl k2 rfl (by decide) (by show w.heap.size + 1 + 1 < W0.heap.size; omega) (fun i x hi => by
    have hi' : i = 0 := by
      rcases i with _ | i
      · rfl
      · simp [f0] at hi
    subst hi'
    obtain rfl : x = ⟨7, 5, [⟨⟨#[97]⟩, -1, 4⟩]⟩ := by simpa [f0] using hi.symm
    exact ⟨_, enSub_make hR0, fun j u hj => by simpa using hj⟩)
  have hI0 : SmallInv w (w.heap.size + 1 + 1 + 1) (.slice (some ⟨w.heap.size, 0, none⟩) 2 2) (.slice (some ⟨w.heap.size + 1 + 1, 0, none⟩) 1 1) W0 := ⟨hL0, hS0, k3, hb0⟩
  clear k0 k1 k2 k3 hb0 hL0 hR0 hS0 hsz
  go_enter Try.func8, Try.ntmps8
  go_wp2_with fail
  rw [← HW0.out]
  refine (encode_f0 _ _ W0 hI0.l hI0.s).mono ?_
  rintro e w1 ⟨v, rfl, ho, hb⟩
  have hI1 := hI0.step hb
  have hv1 := ho.rd
  obtain ⟨A, c, rfl, hc25⟩ := hv1.form
  clear hI0 ho hb HW0
  go_wp2_with fail
  refine (decode_to _ bytes0 _ f0_dec w1 hv1 (by decide)).mono ?_
  rintro e w2 ⟨A2, n2, c2, A2', n2', c2', rfl, hgL, hgS, hb⟩
  have hI2 := hI1.step hb
  have hv2 := hv1.below hb
  clear hI1 hv1 hb
  have hcv := Joins.run_convert_bytes_const_at (P := Try.prog) (w2.alloc (.cells #[.slice A2 n2 c2, .slice A2' n2' c2'] 25)) 26 5 #[.int .u8 82, .int .u8 83, .int .u8 84, .int .u8 2] 4 4 (w2.heap.size + 1) (by simp) Try.underlying26 Try.underlying5
  have hI3 := (hI2.step ((Below.refl _ _).alloc (Nat.le_refl _) (.cells #[.slice A2 n2 c2, .slice A2' n2' c2'] 25))).step ((Below.refl _ _).alloc (Nat.le_refl _) (.cells #[.int .u8 82, .int .u8 83, .int .u8 84, .int .u8 2] 5 (4, 5)))
  have hBx3 := (Blk.new w2 25 #[.slice A2 n2 c2, .slice A2' n2' c2']).alloc (.cells #[.int .u8 82, .int .u8 83, .int .u8 84, .int .u8 2] 5 (4, 5))
  have hb23 := below_alloc ((Below.refl w2.heap.size w2).alloc (Nat.le_refl _) (.cells #[.slice A2 n2 c2, .slice A2' n2' c2'] 25)) (.cells #[.int .u8 82, .int .u8 83, .int .u8 84, .int .u8 2] 5 (4, 5))
  have hlit := lit_rd (w2.alloc (.cells #[.slice A2 n2 c2, .slice A2' n2' c2'] 25)) (4, 5) #[.int .u8 82, .int .u8 83, .int .u8 84, .int .u8 2] (w2.heap.size + 1) [82, 83, 84, 2] 4 4 (by simp) (by rfl) rfl (by decide)
  have hgL3 := hgL.below hb23
  have hgS3 := hgS.below hb23
  have hv3 := hv2.below hb23
  clear hI2 hgL hgS hv2 hb23
  go_wp2_with fail
  refine (decode_to _ [82, 83, 84, 2] _ dec_kind _ hlit (by decide)).mono ?_
  rintro e w3 ⟨A3, n3, c3, A3', n3', c3', rfl, _, _, hb⟩
  have hI4 := hI3.step hb
  have hBx4 := hBx3.below hb (by simp; omega)
  have hgL4 := hgL3.below hb
  have hgS4 := hgS3.below hb
  have hv4 := hv3.below hb
  clear hcv hI3 hBx3 hlit hgL3 hgS3 hv3 hb
  generalize w2.heap.size = G2 at *
  have hX : Below w3.heap.size w3 ((w3.alloc (.cells #[.slice A3 n3 c3, .slice A3' n3' c3'] 25)).alloc (.cells #[] 5)) := below_alloc ((Below.refl _ _).alloc (Nat.le_refl _) _) _
  have hvX := hv4.below hX
  go_wp2_with (first | (at_builtin; refine app_fresh rfl _ _ 26 rfl 5 Try.underlying26 Try.info5 _ rfl A 25 c bytes0 _ rfl hvX (by decide) (by decide) ?_; intro g5 cap5 w5 hown5 hb5) | (at_builtin; refine app_lit rfl _ _ 26 rfl 5 (.int .u8 0) 1 1 Try.underlying26 Try.info5 rfl (by decide) (by decide) (w3.heap.size + 2) _ 25 _ rfl (World.ownsRow.alloc (own_less hown5 (by simp)) _) w5.heap.size 1 1 #[.int .u8 0] rfl (Blk.new _ _ _) rfl (by simp [Value.oneCell']) (by decide) (by decide) (by have := hb5.size; simp at this ⊢; omega) ?_; intro g6 cap6 w6 hown6 hgr6 hat6 hlt6))
  have ho6 : OwnB 5 w6 (w3.heap.size + 2) (.slice (some ⟨g6, 0, none⟩) 26 cap6) (bytes0 ++ [0]) := hown6
  have hB36 : Below w3.heap.size w3 w6 := (below_alloc (below_step hX hb5) (.cells #[.int .u8 0] 5)).grown hgr6 (below_alloc (below_step hX hb5) (.cells #[.int .u8 0] 5)).size (fun k hk => by have := own_bound hown5 k hk; simp at this; omega)
  have hI6 := hI4.step hB36
  have hBx6 := hBx4.below hB36 hBx4.lt
  have hgL6 := hgL4.below hB36
  have hgS6 := hgS4.below hB36
  have hv6 := hv4.below hB36
  have hdec6 := decode_to _ (bytes0 ++ [0]) _ dec_more w6 ho6.rd (by decide)
  clear hI4 hBx4 hgL4 hgS4 hv4 hB36 ho6 hown6 hgr6 hat6 hlt6 hown5 hb5 hX hvX
  refine hdec6.mono ?_
  rintro e w7 ⟨A7, n7, c7, A7', n7', c7', rfl, _, _, hb⟩
  have hI7 := hI6.step hb
  have hBx7 := hBx6.below hb hBx6.lt
  have hgL7 := hgL6.below hb
  have hgS7 := hgS6.below hb
  have hv7 := hv6.below hb
  clear hI6 hBx6 hgL6 hgS6 hv6 hdec6 hb
  have hb78 := below_alloc ((Below.refl w7.heap.size w7).alloc (Nat.le_refl _) (.cells #[.slice A7 n7 c7, .slice A7' n7' c7'] 25)) (.cells #[.int .u8 82, .int .u8 83, .int .u8 84, .int .u8 1, .int .u8 17] 5 (5, 6))
  have hcv := Joins.run_convert_bytes_const_at (P := Try.prog) (w7.alloc (.cells #[.slice A7 n7 c7, .slice A7' n7' c7'] 25)) 26 5 #[.int .u8 82, .int .u8 83, .int .u8 84, .int .u8 1, .int .u8 17] 5 5 (w7.heap.size + 1) (by simp) Try.underlying26 Try.underlying5
  have hlit := lit_rd (w7.alloc (.cells #[.slice A7 n7 c7, .slice A7' n7' c7'] 25)) (5, 6) #[.int .u8 82, .int .u8 83, .int .u8 84, .int .u8 1, .int .u8 17] (w7.heap.size + 1) [82, 83, 84, 1, 17] 5 5 (by simp) (by rfl) rfl (by decide)
  have hI8 := hI7.step hb78
  have hBx8 := hBx7.below hb78 hBx7.lt
  have hgL8 := hgL7.below hb78
  have hgS8 := hgS7.below hb78
  have hv8 := hv7.below hb78
  clear hI7 hBx7 hgL7 hgS7 hv7 hb78
  go_wp2_with fail
  refine (decode_to _ [82, 83, 84, 1, 17] _ dec_lim _ hlit (by decide)).mono ?_
  rintro e w9 ⟨A9, n9, c9, A9', n9', c9', rfl, _, _, hb⟩
  have hb9 := hb.trans ((Below.refl w9.heap.size w9).mono hb.size)
  have hI9 := hI8.step hb
  have hBx9 := hBx8.below hb hBx8.lt
  have hgL9 := hgL8.below hb
  have hgS9 := hgS8.below hb
  have hv9 := hv8.below hb
  clear hcv hlit hI8 hBx8 hgL8 hgS8 hv8 hb hb9
  have hbA := below_alloc ((Below.refl w9.heap.size w9).alloc (Nat.le_refl _) (.cells #[.slice A9 n9 c9, .slice A9' n9' c9'] 25)) (.cells #[.string ⟨#[97]⟩, .int .i64 1, .int .i64 4, .string ⟨#[]⟩] 50)
  have hev : enAttr.Rd ((w9.alloc (.cells #[.slice A9 n9 c9, .slice A9' n9' c9'] 25)).alloc (.cells #[.string ⟨#[97]⟩, .int .i64 1, .int .i64 4, .string ⟨#[]⟩] 50)) (.slice (some ⟨w9.heap.size + 1, 0, none⟩) 1 1) ev0 := by
    have := Blk.new (w9.alloc (.cells #[.slice A9 n9 c9, .slice A9' n9' c9'] 25)) 50 #[.string ⟨#[97]⟩, .int .i64 1, .int .i64 4, .string ⟨#[]⟩]
    rw [World.size_alloc] at this
    exact blk_flat this rfl (by decide) (by simp) rfl
  have hIA := hI9.step hbA
  have hBxA := hBx9.below hbA hBx9.lt
  have hgLA := hgL9.below hbA
  have hgSA := hgS9.below hbA
  have hvA := hv9.below hbA
  have hstr := sl_string Try.underlying26 Try.underlying5 Try.underlying9 hvA
  have d0 := hIA.b.cell 0
  have d1 := hIA.b.cell 1
  have dl := hI9.b.lt
  have e0 := hBxA.cell 0
  have e1 := hBxA.cell 1
  have el := hBx9.lt
  simp only [List.getElem?_toArray, List.getElem?_cons_zero, List.getElem?_cons_succ] at d0 d1 e0 e1
  have hsame := same14 _ _ _ _ f0 _ hIA.l hIA.s hgLA hgSA (by decide) (by decide) (by decide)
  clear hI9 hBx9 hgL9 hgS9 hv9
  go_wp2_with fail
  refine hsame.mono ?_
  rintro e wB ⟨rfl, hb⟩
  have hIB := hIA.step hb
  have hevB := hev.below hb
  have d0 := hIB.b.cell 0
  have d1 := hIB.b.cell 1
  simp only [List.getElem?_toArray, List.getElem?_cons_zero, List.getElem?_cons_succ] at d0 d1
  have hnx := next21 _ _ _ f0 ev0 3 wB hIB.l hIB.s hevB (by decide) (by decide) (by decide) (by decide)
  rw [f0_next] at hnx
  clear hIA hev hgLA hgSA hvA hstr hsame hBxA hbA hb e0 e1 el dl
  go_wp2_with fail
  refine hnx.mono ?_
  rintro e wC ⟨vC, rfl, hoC, hb⟩
  have hIC := hIB.step hb
  have hlitC : enI64.Rd (wC.alloc (.cells #[.int .i64 5] 3)) (.slice (some ⟨wC.heap.size, 0, none⟩) 1 1) [5] := blk_flat (Blk.new wC 3 #[.int .i64 5]) rfl (by decide) (by simp) rfl
  have hbC : Below wC.heap.size wC (wC.alloc (.cells #[.int .i64 5] 3)) := (Below.refl _ _).alloc (Nat.le_refl _) _
  have hints := ints20 vC _ [5] _ ((own_rdI hoC).below hbC) hlitC (by decide)
  have hIC' := hIC.step hbC
  clear hIB hnx hb hoC hlitC hbC hIC hevB
  go_wp2_with fail
  refine hints.mono ?_
  rintro e wD ⟨rfl, hb⟩
  have hID := hIC'.step hb
  have d0 := hID.b.cell 0
  have d1 := hID.b.cell 1
  simp only [List.getElem?_toArray, List.getElem?_cons_zero, List.getElem?_cons_succ] at d0 d1
  have hnx := next21 _ _ _ f0 [] 3 wD hID.l hID.s (En.Rd.nil enAttr wD none 0) (by decide) (by decide) (by decide) (by decide)
  rw [f0_next0] at hnx
  clear hIC' hints hb
  go_wp2_with fail
  refine hnx.mono ?_
  rintro e wE ⟨vE, rfl, hoE, hb⟩
  obtain ⟨AE, cE, rfl, _⟩ := own_slice hoE
  have hIE := hID.step hb
  have d0 := hIE.b.cell 0
  have d1 := hIE.b.cell 1
  simp only [List.getElem?_toArray, List.getElem?_cons_zero, List.getElem?_cons_succ] at d0 d1
  have hrt := right15 _ _ f0 wE hIE.l hIE.s (by decide) (by decide)
  rw [f0_right] at hrt
  clear hID hnx hb hoE
  go_wp2_with fail
  refine hrt.mono ?_
  rintro e wF ⟨rfl, hb⟩
  have hbF := below_step hIE.bel hb
  have hmt := meets18 (.slice none 0 0) (.slice none 0 0) [] [] wF (En.Rd.nil enRng wF none 0) (En.Rd.nil enAttr wF none 0) (by decide) (by decide)
  rw [meets_nil] at hmt
  clear hIE hrt hb
  go_wp2_with fail
  refine hmt.mono ?_
  rintro e wG ⟨rfl, hb⟩
  clear hmt
  go_wp2
  go_ret
  exact ⟨rfl, below_step hbF hb⟩
end Go.Proofs.Ytamaihlpdebekaa
