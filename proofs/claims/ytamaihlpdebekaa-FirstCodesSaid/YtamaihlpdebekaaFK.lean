/- first: Encode. -/
import Derived.Test.YtamaihlpdebekaaFJ
namespace Go.Proofs.Ytamaihlpdebekaa
open Go.RowKit
set_option linter.unusedVariables false
set_option linter.unusedSimpArgs false

def be2 (n : Int) : List UInt8 := [b8 (n / 256), b8 n]
def be4 (n : Int) : List UInt8 := [b8 (n / 65536 / 256), b8 (n / 65536), b8 (n / 256), b8 n]
def encRng (r : Rng) : List UInt8 := b8 r.name.size :: (r.name.data.toList ++ (be4 r.lo ++ be4 r.hi))
def encSub (s : FSub) : List UInt8 := be2 s.id ++ (be2 s.from_ ++ (b8 s.ranges.length :: s.ranges.flatMap encRng))
def encF (f : First) : List UInt8 := [82, 83, 84, 1, b8 f.links.length] ++ (f.links.flatMap be2 ++ (b8 f.subs.length :: f.subs.flatMap encSub))

def EncPost (w : World) (f : First) (e : Ending) (w' : World) : Prop :=
  ∃ v, e = .returned (.tuple #[v, .bool f.right]) ∧ OwnB 5 w' w.heap.size v (if f.right then encF f else []) ∧ Below w.heap.size w w'

theorem take_flat {T : Type} {f : T → List UInt8} {xs : List T} {k : Nat} (h : k < xs.length) : (xs.take (k + 1)).flatMap f = (xs.take k).flatMap f ++ f xs[k] := by
  rw [List.take_succ_eq_append_getElem h, List.flatMap_append, List.flatMap_singleton]

/-- What holds all along: the bytes so far; the boxes of the state and of 'two'. -/
structure EncInv (w : World) (B2 : Nat) (cs0 : Array Value) (wr : World) (v : Value) (bs : List UInt8) : Prop where
  own : OwnB 5 wr (B2 + 1) v bs
  x : Blk wr w.heap.size 25 cs0
  y : Blk wr B2 54 #[.func (.func 23) #[] #[]]
  bel : Below w.heap.size w wr
  sz : B2 + 1 ≤ wr.heap.size
  lt : w.heap.size < B2
section
variable {w : World} {B2 : Nat} {cs0 : Array Value} {wr w' : World} {v v' : Value} {bs bs' : List UInt8}
theorem EncInv.grew (h : EncInv w B2 cs0 wr v bs) (ho : OwnB 5 w' (B2 + 1) v' bs') (hg : wr.grownBy w' v.ownBlock) : EncInv w B2 cs0 w' v' bs' :=
  ⟨ho, h.x.grown hg (own_blk_ne h.own h.x (by decide)), h.y.grown hg (own_blk_ne h.own h.y (by decide)), h.bel.grown hg h.bel.size (fun k hk => by have := own_bound h.own k hk; have := h.lt; omega), Nat.le_trans h.sz hg.size, h.lt⟩
theorem EncInv.alloc (h : EncInv w B2 cs0 wr v bs) (o : Obj) : EncInv w B2 cs0 (wr.alloc o) v bs :=
  ⟨World.ownsRow.alloc h.own o, h.x.alloc o, h.y.alloc o, below_alloc h.bel o, by have := h.sz; simp; omega, h.lt⟩
theorem EncInv.drew (h : EncInv w B2 cs0 wr v bs) : EncInv w B2 cs0 wr.drew v bs := ⟨World.ownsRow.drew h.own, h.x, h.y, below_drew h.bel, h.sz, h.lt⟩
theorem EncInv.as (h : EncInv w B2 cs0 wr v bs) (e : bs = bs') : EncInv w B2 cs0 wr v bs' := e ▸ h
end

theorem enc4 {w : World} {B2 Bs : Nat} {cs0 : Array Value} {wr : World} {v a b c : Value} {bs : List UInt8} {t : TypeId} (h : EncInv w B2 cs0 wr v bs) (hs : Blk wr Bs t #[a, b, c]) :
    wr.cell? ⟨B2, 0, none⟩ = some (.func (.func 23) #[] #[]) ∧ wr.cell? ⟨Bs, 0, none⟩ = some a ∧ wr.cell? ⟨Bs, 1, none⟩ = some b ∧ wr.cell? ⟨Bs, 2, none⟩ = some c :=
  ⟨(h.y.cell 0).trans rfl, (hs.cell 0).trans rfl, (hs.cell 1).trans rfl, (hs.cell 2).trans rfl⟩

set_option maxHeartbeats 4000000 in
set_option maxRecDepth 100000 in
theorem encode10_yes (AL : Option Addr) (cL nL : Nat) (AS : Option Addr) (cS nS : Nat) (links : List Int) (subs : List FSub) (w : World) (hL : enI64.Rd w (.slice AL nL cL) links) (hS : enSub.Rd w (.slice AS nS cS) subs)
    (hnL : nL ≤ 16) (hnS : nS ≤ 64) (HNL : Aside (nL = links.length)) (HNS : Aside (nS = subs.length)) (hnR : ∀ s ∈ subs, s.ranges.length ≤ 12) (hnN : ∀ s ∈ subs, ∀ r ∈ s.ranges, r.name.size ≤ 16) (hrt : First.right ⟨links, subs⟩ = true) :
    Calls Try.prog 10 #[.agg #[.slice AL nL cL, .slice AS nS cS]] w (EncPost w ⟨links, subs⟩) := by
  obtain ⟨R, hR⟩ : ∃ R, R = encF ⟨links, subs⟩ := ⟨_, rfl⟩
  have HP : EncPost w ⟨links, subs⟩ = fun e w' => ∃ v, e = .returned (.tuple #[v, .bool true]) ∧ OwnB 5 w' w.heap.size v R ∧ Below w.heap.size w w' := by
    funext e w'
    unfold EncPost
    rw [hrt, hR, if_pos rfl]
  rw [HP]
  have HR := Aside.mk hR
  clear HP hR
  unfold encF at HR
  have hB0 : Below w.heap.size w (w.alloc (.cells #[.slice AL nL cL, .slice AS nS cS] 25)) := (Below.refl _ _).alloc (Nat.le_refl _) _
  have hright := right15 (.slice AL nL cL) (.slice AS nS cS) ⟨links, subs⟩ _ (hL.below hB0) (hS.below hB0) (by simp only; rw [← HNL.out]; unfold maxLen; omega) (by simp only; rw [← HNS.out]; unfold maxLen; omega)
  rw [hrt] at hright
  clear hrt
  have hx0 := Blk.new w 25 #[.slice AL nL cL, .slice AS nS cS]
  go_enter Try.func10, Try.ntmps10
  go_wp2_with fail
  refine hright.mono ?_
  rintro e w1 ⟨rfl, hb1⟩
  obtain ⟨hc, hf⟩ := bcell hb1
  have hB1 := below_step hB0 hb1
  have hsz1 : w.heap.size < w1.heap.size := by have := hb1.size; simp at this; omega
  have hne1 : w.heap.size ≠ w1.heap.size := by omega
  have hx1 := (hx0.below hb1 (by simp)).alloc (.cells #[.func (.func 23) #[] #[]] 54)
  have hy1 := Blk.new w1 54 #[.func (.func 23) #[] #[]]
  have hB1' := below_alloc hB1 (.cells #[.func (.func 23) #[] #[]] 54)
  have hcv := Joins.run_convert_bytes_const_at (P := Try.prog) (w1.alloc (.cells #[.func (.func 23) #[] #[]] 54)) 26 5 #[.int .u8 82, .int .u8 83, .int .u8 84, .int .u8 1] 4 4 (w1.heap.size + 1) (by simp) Try.underlying26 Try.underlying5
  have hkb : ((w1.alloc (.cells #[.func (.func 23) #[] #[]] 54)).alloc (.cells #[.int .u8 82, .int .u8 83, .int .u8 84, .int .u8 1] 5 (4, 5))).heap[w1.heap.size + 1]? = some (.cells #[.int .u8 82, .int .u8 83, .int .u8 84, .int .u8 1] 5 (4, 5)) := by
    have := heap_alloc_new (w1.alloc (.cells #[.func (.func 23) #[] #[]] 54)) (.cells #[.int .u8 82, .int .u8 83, .int .u8 84, .int .u8 1] 5 (4, 5))
    simpa using this
  have hsz3 : ((w1.alloc (.cells #[.func (.func 23) #[] #[]] 54)).alloc (.cells #[.int .u8 82, .int .u8 83, .int .u8 84, .int .u8 1] 5 (4, 5))).heap.size = w1.heap.size + 2 := by simp
  have hB3 : Below w.heap.size w ((w1.alloc (.cells #[.func (.func 23) #[] #[]] 54)).alloc (.cells #[.int .u8 82, .int .u8 83, .int .u8 84, .int .u8 1] 5 (4, 5))) := below_alloc hB1' _
  have hx3 : Blk ((w1.alloc (.cells #[.func (.func 23) #[] #[]] 54)).alloc (.cells #[.int .u8 82, .int .u8 83, .int .u8 84, .int .u8 1] 5 (4, 5))) w.heap.size 25 #[.slice AL nL cL, .slice AS nS cS] := hx1.alloc _
  have hy3 : Blk ((w1.alloc (.cells #[.func (.func 23) #[] #[]] 54)).alloc (.cells #[.int .u8 82, .int .u8 83, .int .u8 84, .int .u8 1] 5 (4, 5))) w1.heap.size 54 #[.func (.func 23) #[] #[]] := hy1.alloc _
  clear hright hx0 hx1 hy1 hB1 hB1'
  have holds : ∀ j u, ([.int .u8 82, .int .u8 83, .int .u8 84, .int .u8 1] : List Value)[j]? = some u → (((w1.alloc (.cells #[.func (.func 23) #[] #[]] 54)).alloc (.cells #[.int .u8 82, .int .u8 83, .int .u8 84, .int .u8 1] 5 (4, 5))).alloc (.cells #[.int .u8 (nL : Int)] 5)).cell? ((⟨w1.heap.size + 1, 0, none⟩ : Addr).add j) = some u := fun j u hj => by
    rw [add_lit, cell_of_row _ _ _ _ _ _ ((Below.heap_alloc ((w1.alloc (.cells #[.func (.func 23) #[] #[]] 54)).alloc (.cells #[.int .u8 82, .int .u8 83, .int .u8 84, .int .u8 1] 5 (4, 5))) _ _ (by omega)).trans hkb)]
    simpa using hj
  have hnew : Blk (((w1.alloc (.cells #[.func (.func 23) #[] #[]] 54)).alloc (.cells #[.int .u8 82, .int .u8 83, .int .u8 84, .int .u8 1] 5 (4, 5))).alloc (.cells #[.int .u8 (nL : Int)] 5)) (w1.heap.size + 1 + 1) 5 #[.int .u8 (nL : Int)] := by
    have := Blk.new ((w1.alloc (.cells #[.func (.func 23) #[] #[]] 54)).alloc (.cells #[.int .u8 82, .int .u8 83, .int .u8 84, .int .u8 1] 5 (4, 5))) 5 #[.int .u8 (nL : Int)]
    rwa [hsz3] at this
  have HO := Aside.mk holds
  have HKB := Aside.mk hkb
  have HSZ3 := Aside.mk hsz3
  clear holds hkb hsz3
  go_wp2_with (at_builtin; refine app_full rfl _ _ 26 rfl 5 (.int .u8 0) 1 1 Try.underlying26 Try.info5 rfl (by decide) (by decide) (some ⟨w1.heap.size + 1, 0, none⟩) 4 4 [.int .u8 82, .int .u8 83, .int .u8 84, .int .u8 1] rfl (fun h => by cases h) rfl (fun b hb => by injection hb with hb; subst hb; exact HO.out) (w1.heap.size + 1 + 1) 1 1 #[.int .u8 (nL : Int)] rfl hnew rfl (by simp [Value.oneCell']) (by decide) (by decide) (by decide) ?_; intro g cap w4 hown4 hb4 hat hlt4; have hx4 := Blk.below (hx3.alloc (.cells #[.int .u8 (nL : Int)] 5)) hb4 (by simp; omega); have hy4 := Blk.below (hy3.alloc (.cells #[.int .u8 (nL : Int)] 5)) hb4 (by simp; omega); have hd0 := hx4.cell 0; have hd1 := hx4.cell 1; simp only [List.getElem?_toArray, List.getElem?_cons_zero, List.getElem?_cons_succ] at hd0 hd1)
  have hB4 := below_step (below_alloc hB3 (.cells #[.int .u8 (nL : Int)] 5)) hb4
  have hsz4 : w1.heap.size + 1 ≤ w4.heap.size := by have := hb4.size; simp at this; omega
  have hown4' : OwnB 5 w4 (w1.heap.size + 1) (.slice (some ⟨g, 0, none⟩) 5 cap) ([82, 83, 84, 1] ++ [b8 nL]) := by
    refine own_less ?_ (show w1.heap.size + 1 ≤ (((w1.alloc (.cells #[.func (.func 23) #[] #[]] 54)).alloc (.cells #[.int .u8 82, .int .u8 83, .int .u8 84, .int .u8 1] 5 (4, 5))).alloc (.cells #[.int .u8 (nL : Int)] 5)).heap.size by simp)
    rw [List.map_append, show [b8 (nL : Int)].map u8v = [.int .u8 (nL : Int)] from by rw [List.map_cons, List.map_nil, b8_u8v, Int.emod_eq_of_lt (by omega) (by omega)]]
    exact hown4
  have hI : EncInv w w1.heap.size #[.slice AL nL cL, .slice AS nS cS] w4 (.slice (some ⟨g, 0, none⟩) 5 cap) ([82, 83, 84, 1] ++ [b8 nL]) := ⟨hown4', hx4, hy4, hB4, hsz4, hsz1⟩
  generalize Value.slice (some ⟨g, 0, none⟩) 5 cap = v4 at *
  clear hown4 hb4 hat hlt4 hx3 hy3 hB3 HO HKB HSZ3 hnew hcv hf hc hd0 hd1 hown4' hx4 hy4 hB4 hsz4 hB0 hb1 hne1
  generalize w1.heap.size = B2 at *
  go_loopw [6, 28] (fun v j wr => ∃ k : Nat, ∃ bs : List UInt8, j = .int .i64 k ∧ k ≤ nL ∧ bs.length ≤ 5 + 2 * k ∧ Aside (bs = [82, 83, 84, 1] ++ [b8 nL] ++ (links.take k).flatMap be2) ∧ EncInv w B2 #[.slice AL nL cL, .slice AS nS cS] wr v bs) (fun v j wr => nL - (intOf j).toNat)
  case atStart => exact ⟨0, _, rfl, Nat.zero_le _, by simp, ⟨by simp⟩, hI⟩
  case round =>
    clear hI
    obtain ⟨k, bs, rfl, hk, hbl, HB, hI⟩ := hrel
    have hc2 := hI.y.cell 0
    have hd0 := hI.x.cell 0
    have hd1 := hI.x.cell 1
    have hlt2 := hI.lt
    simp only [List.getElem?_toArray, List.getElem?_cons_zero, List.getElem?_cons_succ] at hc2 hd0 hd1
    by_cases hlt : k < nL
    · have hlt' : k < links.length := by rw [← HNL.out]; exact hlt
      obtain ⟨a, rfl, hab, h0⟩ := rdI_at (hL.below hI.bel) k hlt'
      rw [show links.getD k 0 = links[k] by simp [hlt']] at h0
      have HT := Aside.mk (take_flat (f := be2) hlt')
      generalize links[k] = y at *
      have htwo := two23 u6 bs (B2 + 1) y wr hI.own hI.sz (by omega)
      have HB2 : Aside (bs ++ [b8 (y / 256), b8 y] = [82, 83, 84, 1] ++ [b8 nL] ++ (links.take (k + 1)).flatMap be2) := ⟨by rw [HT.out, HB.out, be2, ← List.append_assoc]⟩
      clear HR HT HB hL hS
      go_wp2_with fail
      refine htwo.mono ?_
      rintro e w5 ⟨v5, rfl, ho5, hg5, ha5⟩
      have hI5 := hI.grew ho5 hg5
      clear htwo hI ho5 hg5
      go_wp2
      go_roundw
      case rel => exact ⟨k + 1, _, by go_num, by omega, by simp; omega, HB2, hI5⟩
      case measure => simp [intOf]; omega
    · obtain rfl : k = nL := by omega
      have hbs : bs = [82, 83, 84, 1] ++ [b8 k] ++ links.flatMap be2 := by rw [HB.out, HNL.out, List.take_length]
      have HB2 := Aside.mk hbs
      clear HB hbs
      go_wp2_with (at_builtin; refine app_lit rfl _ _ 26 rfl 5 (.int .u8 0) 1 1 Try.underlying26 Try.info5 rfl (by decide) (by decide) (B2 + 1) u6 bs.length _ rfl (World.ownsRow.alloc hI.own _) wr.heap.size 1 1 #[.int .u8 (nS : Int)] rfl (Blk.new _ _ _) rfl (by simp [Value.oneCell']) (by decide) (by omega) (by have := hI.sz; simp; omega) ?_; intro g cap w4 hown4 hgr4 hat hlt4; have hI4 := hI.grew (bs' := bs ++ [b8 nS]) (by unfold OwnB; rw [List.map_append, List.length_append, List.map_cons, List.map_nil, b8_u8v, Int.emod_eq_of_lt (by omega) (by omega)]; exact hown4) ((grown_alloc _ _ _).trans hgr4); have hd0 := hI4.x.cell 0; have hd1 := hI4.x.cell 1; simp only [List.getElem?_toArray, List.getElem?_cons_zero, List.getElem?_cons_succ] at hd0 hd1)
      have hI4' := hI4
      clear hI hown4 hgr4 hat hlt4 hI4 hd0 hd1
      generalize Value.slice (some ⟨g, 0, none⟩) (bs.length + 1) cap = v5 at *
      go_loopw [6, 47] (fun v j wr => ∃ m : Nat, ∃ bs2 : List UInt8, j = .int .i64 m ∧ m ≤ nS ∧ bs2.length ≤ 40 + 305 * m ∧ Aside (bs2 = bs ++ [b8 nS] ++ (subs.take m).flatMap encSub) ∧ EncInv w B2 #[.slice AL k cL, .slice AS nS cS] wr v bs2) (fun v j wr => nS - (intOf j).toNat)
      case atStart => exact ⟨0, _, rfl, Nat.zero_le _, by simp; omega, ⟨by simp⟩, hI4'⟩
      case round =>
        clear hI4'
        obtain ⟨m, bs2, rfl, hm, hbl2, HB3, hI⟩ := hrel
        have hc2 := hI.y.cell 0
        have hlt2 := hI.lt
        have hlt3 := hI.y.lt
        simp only [List.getElem?_toArray, List.getElem?_cons_zero, List.getElem?_cons_succ] at hc2
        by_cases hltm : m < nS
        · have hltm' : m < subs.length := by rw [← HNS.out]; exact hltm
          obtain ⟨a, v, rfl, hab, hv, h0, h1, h2⟩ := rdSub_at hS m hltm'
          replace h0 := (hI.bel.cell (by rw [block_of_add]; exact hab)).trans h0
          replace h1 := (hI.bel.cell (by rw [block_of_add]; exact hab)).trans h1
          replace h2 := (hI.bel.cell (by rw [block_of_add]; exact hab)).trans h2
          have HT := Aside.mk (take_flat (f := encSub) hltm')
          have hR12 := hnR _ (List.getElem_mem hltm')
          have hN16 := Aside.mk (hnN _ (List.getElem_mem hltm'))
          generalize subs[m] = s at *
          obtain ⟨Av, cv, rfl, hlv⟩ := hv.form
          obtain ⟨nr, hnr⟩ : ∃ n, n = s.ranges.length := ⟨_, rfl⟩
          rw [← hnr] at h2 hR12 hv hlv
          have HNR := Aside.mk hnr
          have hI1 := (hI.alloc (.cells #[.int .i64 s.id, .int .i64 s.from_, .slice Av nr cv] 40)).drew
          have hs1 : Blk (wr.alloc (.cells #[.int .i64 s.id, .int .i64 s.from_, .slice Av nr cv] 40)).drew wr.heap.size 40 #[.int .i64 s.id, .int .i64 s.from_, .slice Av nr cv] := Blk.new _ _ _
          have hk1 := enc4 hI1 hs1
          have hc1 := two23 u6 bs2 (B2 + 1) s.id _ hI1.own hI1.sz (by omega)
          have hc1' := fun v2 w2 (h : EncInv w B2 #[.slice AL k cL, .slice (some a) nS cS] w2 v2 (bs2 ++ [b8 (s.id / 256), b8 s.id])) => two23 v2 _ (B2 + 1) s.from_ w2 h.own h.sz (by simp; omega)
          have hIc := ((hI.alloc (.cells #[.int .i64 s.id, .int .i64 s.from_, .slice Av nr cv] 40)).alloc (.cells #[.int .u8 (nr : Int)] 5)).drew
          have hsc : Blk ((wr.alloc (.cells #[.int .i64 s.id, .int .i64 s.from_, .slice Av nr cv] 40)).alloc (.cells #[.int .u8 (nr : Int)] 5)).drew wr.heap.size 40 #[.int .i64 s.id, .int .i64 s.from_, .slice Av nr cv] := (Blk.new wr 40 _).alloc _
          have hlc : Blk ((wr.alloc (.cells #[.int .i64 s.id, .int .i64 s.from_, .slice Av nr cv] 40)).alloc (.cells #[.int .u8 (nr : Int)] 5)).drew (wr.heap.size + 1) 5 #[.int .u8 (nr : Int)] := by
            have := Blk.new (wr.alloc (.cells #[.int .i64 s.id, .int .i64 s.from_, .slice Av nr cv] 40)) 5 #[.int .u8 (nr : Int)]
            rw [World.size_alloc] at this
            exact this
          have hkc := enc4 hIc hsc
          have hc1c := two23 u6 bs2 (B2 + 1) s.id _ hIc.own hIc.sz (by omega)
          have hnu : some (wr.heap.size + 1) ≠ u6.ownBlock := own_ne_new hI.own (by omega)
          have hbl3 : (bs2 ++ [b8 (s.id / 256), b8 s.id] ++ [b8 (s.from_ / 256), b8 s.from_]).length ≤ 100000 := by simp; omega
          have hwr : IntKind.u8.wrap (nr : Int) = (nr : Int) := by rw [IntKind.wrap_u8]; omega
          clear hnr hL hS HB2
          go_upto_region 15 with fail
          go_cut [6] (fun s6 wx => EncInv w B2 #[.slice AL k cL, .slice (some a) nS cS] wx s6 (bs2 ++ [b8 (s.id / 256), b8 s.id] ++ [b8 (s.from_ / 256), b8 s.from_] ++ [b8 nr]) ∧ Blk wx wr.heap.size 40 #[.int .i64 s.id, .int .i64 s.from_, .slice Av nr cv])
          case first =>
            clear HR HT HB3
            go_region_held3 (fun w' => w'.cell? ⟨B2, 0, none⟩ = some (.func (.func 23) #[] #[]) ∧ w'.cell? ⟨wr.heap.size, 0, none⟩ = some (.int .i64 s.id) ∧ w'.cell? ⟨wr.heap.size, 1, none⟩ = some (.int .i64 s.from_) ∧ w'.cell? ⟨wr.heap.size, 2, none⟩ = some (.slice Av nr cv))
              (first | exact hk5 | exact hk4 | exact hk3 | exact hkl2 | exact hk2 | exact hk1 | exact hkc | go_keep)
              (first
                | (go_at_call_of 23 u6; (with_reducible refine hc1.mono ?_); rintro e w2 ⟨v2, rfl, ho2, hg2, ha2⟩; have hI2 := hI1.grew ho2 hg2; have hs2 := hs1.grown hg2 (own_blk_ne hI1.own hs1 (by decide)); have hk2 := enc4 hI2 hs2; have hIl2 := hI2.alloc (.cells #[.int .u8 (nr : Int)] 5); have hsl2 := hs2.alloc (.cells #[.int .u8 (nr : Int)] 5); have hkl2 := enc4 hIl2 hsl2; have hlb2 := Blk.new w2 5 #[.int .u8 (nr : Int)]; have hn2 := own_ne_new hI2.own (Nat.le_refl w2.heap.size))
                | (go_at_call_of 23 u6; (with_reducible refine hc1c.mono ?_); rintro e w2 ⟨v2, rfl, ho2, hg2, ha2⟩; have hI2 := hIc.grew ho2 hg2; have hs2 := hsc.grown hg2 (own_blk_ne hIc.own hsc (by decide)); have hk2 := enc4 hI2 hs2; have hlb2 := hlc.grown hg2 hnu; have hn2 := ne_grew hnu ha2 (by simp))
                | (go_at_call_of 23 v2; (with_reducible refine (hc1' _ _ hI2).mono ?_); rintro e w3 ⟨v3, rfl, ho3, hg3, ha3⟩; have hI3 := hI2.grew ho3 hg3; have hs3 := hs2.grown hg3 (own_blk_ne hI2.own hs2 (by decide)); have hk3 := enc4 hI3 hs3; have hk4 := enc4 (hI3.alloc (.cells #[.int .u8 (nr : Int)] 5)) (hs3.alloc (.cells #[.int .u8 (nr : Int)] 5)); (try have hlb3 := hlb2.grown hg3 hn2))
                | (go_at_call_of 23 v2; (with_reducible refine (hc1' _ _ hIl2).mono ?_); rintro e w3 ⟨v3, rfl, ho3, hg3, ha3⟩; have hI3 := hIl2.grew ho3 hg3; have hs3 := hsl2.grown hg3 (own_blk_ne hIl2.own hsl2 (by decide)); have hk3 := enc4 hI3 hs3; have hlb3 := hlb2.grown hg3 hn2)
                | (refine step_app_lit rfl _ _ 26 rfl 5 (.int .u8 0) 1 1 Try.underlying26 Try.info5 rfl (by decide) (by decide) (B2 + 1) v3 _ _ (by rfl) (hI3.alloc (.cells #[.int .u8 (nr : Int)] 5)).own w3.heap.size 1 1 #[.int .u8 (nr : Int)] (by rfl) (Blk.new _ _ _) rfl (by simp [Value.oneCell']) (by decide) (by omega) (hI3.alloc (.cells #[.int .u8 (nr : Int)] 5)).sz ?_; intro g5 cap5 w5 hown5 hgr5 hat5 hlt5; have hI5 := (hI3.alloc (.cells #[.int .u8 (nr : Int)] 5)).grew (bs' := bs2 ++ [b8 (s.id / 256), b8 s.id] ++ [b8 (s.from_ / 256), b8 s.from_] ++ [b8 nr]) (by unfold OwnB; rw [List.map_append, List.length_append, List.map_cons, List.map_nil, b8_u8v, Int.emod_eq_of_lt (by omega) (by omega)]; exact hown5) hgr5; have hs5 := (hs3.alloc (.cells #[.int .u8 (nr : Int)] 5)).grown hgr5 (own_blk_ne (hI3.alloc (.cells #[.int .u8 (nr : Int)] 5)).own (hs3.alloc (.cells #[.int .u8 (nr : Int)] 5)) (by decide)); have hk5 := enc4 hI5 hs5)
                | (refine step_app_lit rfl _ _ 26 rfl 5 (.int .u8 0) 1 1 Try.underlying26 Try.info5 rfl (by decide) (by decide) (B2 + 1) v3 _ _ (by rfl) hI3.own _ 1 1 #[.int .u8 (nr : Int)] (by rfl) hlb3 rfl (by simp [Value.oneCell']) (by decide) (by omega) hI3.sz ?_; intro g5 cap5 w5 hown5 hgr5 hat5 hlt5; have hI5 := hI3.grew (bs' := bs2 ++ [b8 (s.id / 256), b8 s.id] ++ [b8 (s.from_ / 256), b8 s.from_] ++ [b8 nr]) (by unfold OwnB; rw [List.map_append, List.length_append, List.map_cons, List.map_nil, b8_u8v, Int.emod_eq_of_lt (by omega) (by omega)]; exact hown5) hgr5; have hs5 := hs3.grown hgr5 (own_blk_ne hI3.own hs3 (by decide)); have hk5 := enc4 hI5 hs5))
            all_goals
              rw [show (bs2 ++ [b8 (s.id / 256), b8 s.id] ++ [b8 (s.from_ / 256), b8 s.from_]).length + 1 = bs2.length + 4 + 1 by simp] at hI5
              go_wp2_with fail
              go_meet
              exact ⟨hI5, hs5⟩
          case rest =>
            obtain ⟨hI6, hs6⟩ := hcut
            have hd2 := hs6.cell 2
            simp only [List.getElem?_toArray, List.getElem?_cons_zero, List.getElem?_cons_succ] at hd2
            obtain ⟨bs3, hbs3⟩ : ∃ bs3, bs3 = bs2 ++ [b8 (s.id / 256), b8 s.id] ++ [b8 (s.from_ / 256), b8 s.from_] ++ [b8 (nr : Int)] := ⟨_, rfl⟩
            rw [← hbs3] at hI6
            have hbl4 : bs3.length ≤ 45 + 305 * m := by rw [hbs3]; simp; omega
            have HB4 := Aside.mk hbs3
            clear hbs3 hI hI1 hs1 hk1 hc1 hc1' hbl3 h0 h1 h2 hwr hab hc2 hbl2
            have hbl5 := hbl4
            clear hbl4
            go_wp2
            go_loopw [6, 69] (fun v j wr => ∃ q : Nat, ∃ bs4 : List UInt8, j = .int .i64 q ∧ q ≤ nr ∧ bs4.length ≤ 45 + 305 * m + 25 * q ∧ Aside (bs4 = bs3 ++ (s.ranges.take q).flatMap encRng) ∧ EncInv w B2 #[.slice AL k cL, .slice (some a) nS cS] wr v bs4) (fun v j wr => nr - (intOf j).toNat)
            case atStart => exact ⟨0, _, rfl, Nat.zero_le _, by omega, ⟨by simp⟩, hI6⟩
            case round =>
              clear hI6 hs6 hd2
              obtain ⟨q, bs4, rfl, hq, hbl6, HB5, hI⟩ := hrel
              by_cases hltq : q < nr
              · have hltq' : q < s.ranges.length := by rw [← HNR.out]; exact hltq
                obtain ⟨a2, rfl, hab2, g0, g1, g2⟩ := rdRng_at hv q hltq'
                replace g0 := (hI.bel.cell (by rw [block_of_add]; exact hab2)).trans g0
                replace g1 := (hI.bel.cell (by rw [block_of_add]; exact hab2)).trans g1
                replace g2 := (hI.bel.cell (by rw [block_of_add]; exact hab2)).trans g2
                have HT2 := Aside.mk (take_flat (f := encRng) hltq')
                have hnm := hN16.out _ (List.getElem_mem hltq')
                generalize s.ranges[q] = r at *
                have hwr2 : IntKind.u8.wrap (r.name.size : Int) = (r.name.size : Int) := by rw [IntKind.wrap_u8]; omega
                have hI1 := (hI.alloc (.cells #[.string r.name, .int .i64 r.lo, .int .i64 r.hi] 46)).drew
                have hs1 : Blk (wr.alloc (.cells #[.string r.name, .int .i64 r.lo, .int .i64 r.hi] 46)).drew wr.heap.size 46 #[.string r.name, .int .i64 r.lo, .int .i64 r.hi] := Blk.new _ _ _
                have hI2 := ((hI.alloc (.cells #[.string r.name, .int .i64 r.lo, .int .i64 r.hi] 46)).alloc (.cells #[.int .u8 (r.name.size : Int)] 5)).drew
                have hs2 : Blk ((wr.alloc (.cells #[.string r.name, .int .i64 r.lo, .int .i64 r.hi] 46)).alloc (.cells #[.int .u8 (r.name.size : Int)] 5)).drew wr.heap.size 46 #[.string r.name, .int .i64 r.lo, .int .i64 r.hi] := (Blk.new wr 46 _).alloc _
                have hs2' : Blk ((wr.alloc (.cells #[.string r.name, .int .i64 r.lo, .int .i64 r.hi] 46)).alloc (.cells #[.int .u8 (r.name.size : Int)] 5)).drew (wr.heap.size + 1) 5 #[.int .u8 (r.name.size : Int)] := by
                  have := Blk.new (wr.alloc (.cells #[.string r.name, .int .i64 r.lo, .int .i64 r.hi] 46)) 5 #[.int .u8 (r.name.size : Int)]
                  rw [World.size_alloc] at this
                  exact this
                have hk1 := (enc4 hI1 hs1).2.1
                have hk2 := (enc4 hI2 hs2).2.1
                have hsd : r.name.data.toList.length = r.name.size := by rw [Array.length_toList]; rfl
                have HSD := Aside.mk hsd
                clear hsd HR HT HB3 HB4 hv hN16
                go_wp2_with fail
                go_region_held3 (fun w' => w'.cell? ⟨wr.heap.size, 0, none⟩ = some (.string r.name))
                  (first | exact hk4 | exact hk3 | exact hk2 | exact hk1 | go_keep)
                  (first
                    | (refine step_app_lit rfl _ _ 26 rfl 5 (.int .u8 0) 1 1 Try.underlying26 Try.info5 rfl (by decide) (by decide) (B2 + 1) u6 _ _ (by rfl) hI2.own (wr.heap.size + 1) 1 1 #[.int .u8 (r.name.size : Int)] (by rfl) hs2' rfl (by simp [Value.oneCell']) (by decide) (by omega) hI2.sz ?_; intro g5 cap5 w5 hown5 hgr5 hat5 hlt5; have hI3 := hI2.grew (bs' := bs4 ++ [b8 r.name.size]) (by unfold OwnB; rw [List.map_append, List.length_append, List.map_cons, List.map_nil, b8_u8v, Int.emod_eq_of_lt (by omega) (by omega)]; exact hown5) hgr5; have hs3 := hs2.grown hgr5 (own_blk_ne hI2.own hs2 (by decide)); have hk3 := (enc4 hI3 hs3).2.1)
                    | (refine step_app_str rfl _ _ 26 9 rfl (B2 + 1) 5 Try.underlying26 Try.underlying9 Try.info5 (.slice (some ⟨g5, 0, none⟩) (bs4.length + 1) cap5) _ _ (by rfl) hI3.own r.name (by rfl) (by simp; omega) hI3.sz ?_; intro v6 w6 hown6 hgr6 hat6; have hI4 := hI3.grew (bs' := bs4 ++ [b8 r.name.size] ++ r.name.data.toList) (by unfold OwnB; rw [List.map_append, List.length_append, HSD.out]; exact hown6) hgr6; have hs4 := hs3.grown hgr6 (own_blk_ne hI3.own hs3 (by decide)); have hk4 := (enc4 hI4 hs4).2.1))
                have hbl7 : (bs4 ++ [b8 r.name.size] ++ r.name.data.toList).length ≤ 62 + 305 * m + 25 * q := by
                  rw [List.length_append, List.length_append, HSD.out]
                  simp
                  omega
                have HB7 : Aside (bs4 ++ [b8 r.name.size] ++ r.name.data.toList ++ be4 r.lo ++ be4 r.hi = bs3 ++ (s.ranges.take (q + 1)).flatMap encRng) := ⟨by
                  rw [HT2.out, HB5.out, encRng]
                  simp [List.append_assoc]⟩
                have hI5 := hI4.drew
                have hs5 : Blk w6.drew wr.heap.size 46 #[.string r.name, .int .i64 r.lo, .int .i64 r.hi] := hs4
                clear HT2 HB5 hI hI1 hs1 hI2 hs2 hs2' hk1 hk2 hown5 hgr5 hat5 hlt5 hI3 hs3 hk3 hown6 hgr6 hat6 hk4 hs4 hI4 hwr2 g0 g1 g2 HSD
                generalize bs4 ++ [b8 r.name.size] ++ r.name.data.toList = bs7 at *
                have hk5 := (enc4 hI5 hs5).2.2
                have hf1 := four24 v6 bs7 (B2 + 1) r.lo B2 _ hI5.own hI5.sz (by omega) (by omega) (enc4 hI5 hs5).1
                have hf2 := fun v8 w8 (h : EncInv w B2 #[.slice AL k cL, .slice (some a) nS cS] w8 v8 (bs7 ++ be4 r.lo)) => four24 v8 _ (B2 + 1) r.hi B2 w8 h.own h.sz (by simp [be4]; omega) (by omega) ((h.y.cell 0).trans rfl)
                go_wp2_with fail
                go_region_held3 (fun w' => w'.cell? ⟨wr.heap.size, 1, none⟩ = some (.int .i64 r.lo) ∧ w'.cell? ⟨wr.heap.size, 2, none⟩ = some (.int .i64 r.hi))
                  (first | exact hk9 | exact hk8 | exact hk5)
                  (first
                    | (go_at_call_of 24 v6; refine hf1.mono ?_; rintro e w8 ⟨v8, rfl, ho8, hg8, ha8⟩; have hI8 := hI5.grew (bs' := bs7 ++ be4 r.lo) ho8 hg8; have hs8 := hs5.grown hg8 (own_blk_ne hI5.own hs5 (by decide)); have hk8 := (enc4 hI8 hs8).2.2)
                    | (go_at_call_of 24 v8; refine (hf2 _ _ hI8).mono ?_; rintro e w9 ⟨v9, rfl, ho9, hg9, ha9⟩; have hI9 := hI8.grew (bs' := bs7 ++ be4 r.lo ++ be4 r.hi) ho9 hg9; have hs9 := hs8.grown hg9 (own_blk_ne hI8.own hs8 (by decide)); have hk9 := (enc4 hI9 hs9).2.2))
                clear hI5 hs5 hk5 hf1 hf2 ho8 hg8 ha8 hI8 hs8 hk8 ho9 hg9 ha9 hs9 hk9
                go_wp2
                go_roundw
                case rel => exact ⟨q + 1, _, by go_num, by omega, by simp [be4]; omega, HB7, hI9⟩
                case measure => simp [intOf]; omega
              · obtain rfl : q = nr := by omega
                have HB6 : Aside (bs4 = bs ++ [b8 nS] ++ (subs.take (m + 1)).flatMap encSub) := ⟨by
                  rw [HT.out, HB5.out, HB4.out, HB3.out, HNR.out, List.take_length, encSub, be2, be2]
                  simp [List.append_assoc]⟩
                clear HT HB3 HB4 HB5 hv HR
                go_wp2
                go_roundw
                case rel => exact ⟨m + 1, bs4, by go_num, by omega, by omega, HB6, hI⟩
                case measure => simp [intOf]; omega
        · obtain rfl : m = nS := by omega
          have HF : Aside (bs2 = R) := ⟨by
            rw [HR.out, HB3.out, HNS.out, List.take_length, HB2.out, HNL.out]
            simp [List.append_assoc]⟩
          rw [HF.out] at hI
          obtain ⟨Av, cv, rfl, hcv⟩ := own_slice hI.own
          clear HR HB3 HB2 HF hL hS
          go_wp2
          go_ret2
          exact ⟨_, rfl, own_less hI.own (by have := hI.lt; omega), hI.bel⟩
end Go.Proofs.Ytamaihlpdebekaa
