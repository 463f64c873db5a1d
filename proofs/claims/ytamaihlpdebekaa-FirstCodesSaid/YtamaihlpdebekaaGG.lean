/- rosetteref15: Encode. -/
import Derived.Test.YtamaihlpdebekaaGB
import Derived.Test.YtamaihlpdebekaaGD
import Derived.Test.YtamaihlpdebekaaFM
import Derived.Test.YtamaihlpdebekaaAppB
namespace Go.Proofs.Ytamaihlpdebekaa
open Go.RowKit
set_option linter.unusedVariables false
set_option linter.unusedSimpArgs false

theorem bigB2 (n : Int) : bigB n 2 = be2 n := by simp [bigB, be2]
theorem bigB4 (n : Int) : bigB n 4 = be4 n := by
  have e1 : n / 256 ^ 3 = n / 65536 / 256 := by rw [show (256 : Int) ^ 3 = 16777216 from rfl]; omega
  simp only [bigB, be4, e1]
  simp

theorem big2 (n : Int) (w : World) : Calls Try.prog 25 #[.int .i64 n, .int .i64 2] w (MadeB 5 w (be2 n)) := by
  have := big25 n 2 w (by omega)
  rwa [bigB2] at this
theorem big4 (n : Int) (w : World) : Calls Try.prog 25 #[.int .i64 n, .int .i64 4] w (MadeB 5 w (be4 n)) := by
  have := big25 n 4 w (by omega)
  rwa [bigB4] at this

/-- What holds all along: the bytes so far; the state's box. -/
structure RInv (w : World) (cs0 : Array Value) (wr : World) (v : Value) (bs : List UInt8) : Prop where
  own : OwnB 5 wr (w.heap.size + 1) v bs
  x : Blk wr w.heap.size 25 cs0
  bel : Below w.heap.size w wr
  sz : w.heap.size + 1 ≤ wr.heap.size
section
variable {w : World} {cs0 : Array Value} {wr w' : World} {v v' : Value} {bs bs' : List UInt8}
theorem RInv.grew (h : RInv w cs0 wr v bs) (ho : OwnB 5 w' (w.heap.size + 1) v' bs') (hg : wr.grownBy w' v.ownBlock) : RInv w cs0 w' v' bs' :=
  ⟨ho, h.x.grown hg (own_blk_ne h.own h.x (by decide)), h.bel.grown hg h.bel.size (fun k hk => by have := own_bound h.own k hk; omega), Nat.le_trans h.sz hg.size⟩
theorem RInv.alloc (h : RInv w cs0 wr v bs) (o : Obj) : RInv w cs0 (wr.alloc o) v bs := ⟨h.own.alloc o, h.x.alloc o, below_alloc h.bel o, by have := h.sz; simp; omega⟩
theorem RInv.below (h : RInv w cs0 wr v bs) (hb : Below wr.heap.size wr w') : RInv w cs0 w' v bs := ⟨h.own.below hb, h.x.below hb h.x.lt, below_step h.bel hb, Nat.le_trans h.sz hb.size⟩
theorem RInv.drew (h : RInv w cs0 wr v bs) : RInv w cs0 wr.drew v bs := h.below (below_drew (Below.refl _ _))
theorem RInv.cells {c0 c1 : Value} (h : RInv w #[c0, c1] wr v bs) : wr.cell? ⟨w.heap.size, 0, none⟩ = some c0 ∧ wr.cell? ⟨w.heap.size, 1, none⟩ = some c1 ∧ w.heap.size < wr.heap.size :=
  ⟨(h.x.cell 0).trans rfl, (h.x.cell 1).trans rfl, h.x.lt⟩
end

theorem blk3 {w : World} {B : Nat} {t : TypeId} {a b c : Value} (h : Blk w B t #[a, b, c]) : w.cell? ⟨B, 0, none⟩ = some a ∧ w.cell? ⟨B, 1, none⟩ = some b ∧ w.cell? ⟨B, 2, none⟩ = some c :=
  ⟨(h.cell 0).trans rfl, (h.cell 1).trans rfl, (h.cell 2).trans rfl⟩

set_option maxHeartbeats 4000000 in
set_option maxRecDepth 100000 in
theorem refenc_yes (AL : Option Addr) (cL nL : Nat) (AS : Option Addr) (cS nS : Nat) (links : List Int) (subs : List FSub) (w : World) (hL : enI64.Rd w (.slice AL nL cL) links) (hS : enSub.Rd w (.slice AS nS cS) subs)
    (hnL : nL ≤ 16) (hnS : nS ≤ 64) (HNL : Aside (nL = links.length)) (HNS : Aside (nS = subs.length)) (hnR : ∀ s ∈ subs, s.ranges.length ≤ 12) (hnN : ∀ s ∈ subs, ∀ r ∈ s.ranges, r.name.size ≤ 16) (hrt : First.right ⟨links, subs⟩ = true) :
    Calls Try.prog 11 #[.agg #[.slice AL nL cL, .slice AS nS cS]] w (EncPost w ⟨links, subs⟩) := by
  obtain ⟨R, hR⟩ : ∃ R, R = encF ⟨links, subs⟩ := ⟨_, rfl⟩
  have HP : EncPost w ⟨links, subs⟩ = fun e w' => ∃ v, e = .returned (.tuple #[v, .bool true]) ∧ OwnB 5 w' w.heap.size v R ∧ Below w.heap.size w w' := by
    funext e w'
    unfold EncPost
    rw [hrt, hR, if_pos rfl]
  rw [HP]
  have HR := Aside.mk hR
  clear HP hR
  unfold encF at HR
  simp only at HR
  have hB0 : Below w.heap.size w (w.alloc (.cells #[.slice AL nL cL, .slice AS nS cS] 25)) := (Below.refl _ _).alloc (Nat.le_refl _) _
  have hright := right16 (.slice AL nL cL) (.slice AS nS cS) ⟨links, subs⟩ _ (hL.below hB0) (hS.below hB0) (by simp only; rw [← HNL.out]; unfold maxLen; omega) (by simp only; rw [← HNS.out]; unfold maxLen; omega) (fun s hs => by have := hnR s hs; unfold maxLen; omega)
  rw [hrt] at hright
  clear hrt
  have hx0 := Blk.new w 25 #[.slice AL nL cL, .slice AS nS cS]
  go_enter Try.func11, Try.ntmps11
  go_wp2_with fail
  refine hright.mono ?_
  rintro e w1 ⟨rfl, hb1⟩
  obtain ⟨hc, hf⟩ := bcell hb1
  have hB1 := below_step hB0 hb1
  have hx1 := hx0.below hb1 (by simp)
  have hlit : ([.int .u8 82, .int .u8 83, .int .u8 84, .int .u8 1, .int .u8 (nL : Int)] : List Value) = ([82, 83, 84, 1] ++ [b8 nL]).map u8v := by
    rw [List.map_append, show [b8 (nL : Int)].map u8v = [.int .u8 (nL : Int)] from by rw [List.map_cons, List.map_nil, b8_u8v, Int.emod_eq_of_lt (by omega) (by omega)]]
    rfl
  have hI : RInv w #[.slice AL nL cL, .slice AS nS cS] (w1.alloc (.cells #[.int .u8 82, .int .u8 83, .int .u8 84, .int .u8 1, .int .u8 (nL : Int)] 5)) (.slice (some ⟨w1.heap.size, 0, none⟩) 5 5) ([82, 83, 84, 1] ++ [b8 nL]) := by
    refine ⟨own_new (Blk.new w1 5 #[.int .u8 82, .int .u8 83, .int .u8 84, .int .u8 1, .int .u8 (nL : Int)]) rfl (by decide) ?_ hlit, hx1.alloc _, below_alloc hB1 _, ?_⟩
    · exact hx1.lt
    · have := hx1.lt; simp; omega
  have d0 := (hx1.cell 0).trans rfl
  have d1 := (hx1.cell 1).trans rfl
  have dl := hx1.lt
  clear hright hx0 hx1 hB1 hB0 hlit hc hf hb1
  go_wp2_with fail
  generalize w1.alloc (.cells #[.int .u8 82, .int .u8 83, .int .u8 84, .int .u8 1, .int .u8 (nL : Int)] 5) = W1 at *
  generalize Value.slice (some ⟨w1.heap.size, 0, none⟩) 5 5 = v1 at *
  generalize hw1 : w1.heap.size = B1 at *
  clear hw1
  go_loopw [5, 6] (fun v j wr => ∃ k : Nat, ∃ bs : List UInt8, j = .int .i64 k ∧ k ≤ nL ∧ bs.length ≤ 5 + 2 * k ∧ Aside (bs = [82, 83, 84, 1] ++ [b8 nL] ++ (links.take k).flatMap be2) ∧ RInv w #[.slice AL nL cL, .slice AS nS cS] wr v bs) (fun v j wr => nL - (intOf j).toNat)
  case atStart => exact ⟨0, _, rfl, Nat.zero_le _, by simp, ⟨by simp⟩, hI⟩
  case round =>
    clear hI d0 d1 dl
    obtain ⟨k, bs, rfl, hk, hbl, HB, hI⟩ := hrel
    obtain ⟨d0, d1, dl⟩ := hI.cells
    by_cases hlt : k < nL
    · have hlt' : k < links.length := by rw [← HNL.out]; exact hlt
      obtain ⟨a, rfl, hab, h0⟩ := rdI_at (hL.below hI.bel) k hlt'
      rw [show links.getD k 0 = links[k] by simp [hlt']] at h0
      have HT := Aside.mk (take_flat (f := be2) hlt')
      generalize links[k] = y at *
      have hbig := big25 y 2 wr (by omega)
      rw [bigB2] at hbig
      have HB2 : Aside (bs ++ be2 y = [82, 83, 84, 1] ++ [b8 nL] ++ (links.take (k + 1)).flatMap be2) := ⟨by rw [HT.out, HB.out, ← List.append_assoc]⟩
      clear HR HT HB hL hS
      go_wp2_with fail
      refine hbig.mono ?_
      rintro e w5 ⟨vy, rfl, hoy, hb5⟩
      have hI5 := hI.below hb5
      have hry := hoy.rd
      go_wp2_with (at_builtin; go_loud (refine app_b rfl _ _ 26 rfl 5 Try.underlying26 Try.info5 (w.heap.size + 1) u5 bs rfl hI5.own _ (be2 y) _ rfl hry (by have : (be2 y).length = 2 := rfl; omega) hI5.sz ?_; intro v6 w6 ho6 hg6 ha6))
      have hI6 := hI5.grew ho6 hg6
      clear hbig hI hI5 hoy hry hb5 ho6 hg6 ha6
      go_roundw
      case rel => exact ⟨k + 1, _, by go_num, by omega, by rw [List.length_append]; have : (be2 y).length = 2 := rfl; omega, HB2, hI6⟩
      case measure => simp [intOf]; omega
    · obtain rfl : k = nL := by omega
      have hbs : bs = [82, 83, 84, 1] ++ [b8 k] ++ links.flatMap be2 := by rw [HB.out, HNL.out, List.take_length]
      have HB2 := Aside.mk hbs
      clear HB hbs
      go_wp2_with (at_builtin; go_loud (refine app_b1 rfl _ _ 26 rfl 5 Try.underlying26 Try.info5 (w.heap.size + 1) u5 bs rfl (hI.own.alloc _) wr.heap.size #[.int .u8 (nS : Int)] [b8 nS] 1 1 rfl (Blk.new _ _ _) (by rw [List.map_cons, List.map_nil, b8_u8v, Int.emod_eq_of_lt (by omega) (by omega)]) rfl (by decide) (by simp; omega) (by have := hI.sz; simp; omega) ?_; intro v4 w4 ho4 hg4 ha4; have hI4 := (hI.alloc (.cells #[.int .u8 (nS : Int)] 5)).grew ho4 hg4; obtain ⟨d0, d1, dl⟩ := hI4.cells))
      clear hI ho4 hg4 ha4
      go_loopw [5, 7, 8, 9] (fun v j u8 u9 wr => ∃ m : Nat, ∃ bs2 : List UInt8, j = .int .i64 m ∧ m ≤ nS ∧ bs2.length ≤ 40 + 305 * m ∧ Aside (bs2 = bs ++ [b8 nS] ++ (subs.take m).flatMap encSub) ∧ RInv w #[.slice AL k cL, .slice AS nS cS] wr v bs2) (fun v j u8 u9 wr => nS - (intOf j).toNat)
      case atStart => exact ⟨0, _, rfl, Nat.zero_le _, by simp; omega, ⟨by simp⟩, hI4⟩
      case round =>
        clear hI4 d0 d1 dl
        obtain ⟨m, bs2, rfl, hm, hbl2, HB3, hI⟩ := hrel
        obtain ⟨d0, d1, dl⟩ := hI.cells
        by_cases hltm : m < nS
        · have hltm' : m < subs.length := by rw [← HNS.out]; exact hltm
          obtain ⟨a, v, rfl, hab, hv, h0, h1, h2⟩ := rdSub_at hS m hltm'
          replace h0 := (hI.bel.cell (by rw [block_of_add]; exact hab)).trans h0
          replace h1 := (hI.bel.cell (by rw [block_of_add]; exact hab)).trans h1
          replace h2 := (hI.bel.cell (by rw [block_of_add]; exact hab)).trans h2
          have HT := Aside.mk (take_flat (f := encSub) hltm')
          have hR12 := hnR _ (List.getElem_mem hltm')
          have hN16 := Aside.mk (hnN _ (List.getElem_mem hltm'))
          generalize subs[m] = s at *
          obtain ⟨Av, cv, rfl, hlv⟩ := hv.form
          obtain ⟨nr, hnr⟩ : ∃ n, n = s.ranges.length := ⟨_, rfl⟩
          rw [← hnr] at h2 hR12 hv hlv
          have HNR := Aside.mk hnr
          have hI1 := (hI.alloc (.cells #[.int .i64 s.id, .int .i64 s.from_, .slice Av nr cv] 40)).drew
          have hs1 : Blk (wr.alloc (.cells #[.int .i64 s.id, .int .i64 s.from_, .slice Av nr cv] 40)).drew wr.heap.size 40 #[.int .i64 s.id, .int .i64 s.from_, .slice Av nr cv] := Blk.new _ _ _
          have hk1 := blk3 hs1
          have hbg1 := big2 s.id (wr.alloc (.cells #[.int .i64 s.id, .int .i64 s.from_, .slice Av nr cv] 40)).drew
          have hbg2 := fun w => big2 s.from_ w
          have hl1 : bs2.length + (be2 s.id).length ≤ 140737488355328 := by have : (be2 s.id).length = 2 := rfl; omega
          have hl2 : (bs2 ++ be2 s.id).length + (be2 s.from_).length ≤ 140737488355328 := by rw [List.length_append]; have : (be2 s.id).length = 2 := rfl; have : (be2 s.from_).length = 2 := rfl; omega
          clear hnr hL hS
          go_upto_region 14 with fail
          go_cut [5] (fun s5 wx => RInv w #[.slice AL k cL, .slice (some a) nS cS] wx s5 (bs2 ++ be2 s.id ++ be2 s.from_) ∧ Blk wx wr.heap.size 40 #[.int .i64 s.id, .int .i64 s.from_, .slice Av nr cv])
          case first =>
            clear HR HT HB3
            go_region_held3 (fun w' => w'.cell? ⟨wr.heap.size, 0, none⟩ = some (.int .i64 s.id) ∧ w'.cell? ⟨wr.heap.size, 1, none⟩ = some (.int .i64 s.from_) ∧ w'.cell? ⟨wr.heap.size, 2, none⟩ = some (.slice Av nr cv))
              (first | exact hk5 | exact hk4 | exact hk3 | exact hk2 | exact hk1 | go_keep)
              (first
                | (go_at_call 25; ((with_reducible refine hbg1.mono ?_)); rintro e w2 ⟨v2, rfl, ho2, hb2⟩; have hI2 := hI1.below hb2; have hs2 := hs1.below hb2 hs1.lt; have hk2 := blk3 hs2)
                | (go_at_call 25; ((with_reducible refine (hbg2 _).mono ?_)); rintro e w4 ⟨v4, rfl, ho4, hb4⟩; have hI4 := hI3.below hb4; have hs4 := hs3.below hb4 hs3.lt; have hk4 := blk3 hs4)
                | (refine step_app_b rfl _ _ 26 rfl 5 Try.underlying26 Try.info5 (w.heap.size + 1) v3 _ (by rfl) hI4.own _ (be2 s.from_) _ (by rfl) ho4.rd hl2 hI4.sz ?_; intro v5 w5 ho5 hg5 ha5; have hI5 := hI4.grew ho5 hg5; have hs5 := hs4.grown hg5 (own_blk_ne hI4.own hs4 (by decide)); have hk5 := blk3 hs5)
                | (refine step_app_b rfl _ _ 26 rfl 5 Try.underlying26 Try.info5 (w.heap.size + 1) u5 _ (by rfl) hI2.own _ (be2 s.id) _ (by rfl) ho2.rd hl1 hI2.sz ?_; intro v3 w3 ho3 hg3 ha3; have hI3 := hI2.grew ho3 hg3; have hs3 := hs2.grown hg3 (own_blk_ne hI2.own hs2 (by decide)); have hk3 := blk3 hs3))
            all_goals
              go_wp2_with fail
              go_meet
              exact ⟨hI5, hs5⟩
          case rest =>
            obtain ⟨hI6, hs6⟩ := hcut
            obtain ⟨k0, k1, k2⟩ := blk3 hs6
            obtain ⟨d0, d1, dl⟩ := hI6.cells
            have hXl := hs6.lt
            obtain ⟨bs3, hbs3⟩ : ∃ bs3, bs3 = bs2 ++ be2 s.id ++ be2 s.from_ ++ [b8 (nr : Int)] := ⟨_, rfl⟩
            have hbl4 : bs3.length ≤ 45 + 305 * m := by rw [hbs3]; simp only [List.length_append, be2, List.length_cons, List.length_nil]; omega
            have hbl7 : (bs2 ++ be2 s.id ++ be2 s.from_).length + [b8 (nr : Int)].length ≤ 140737488355328 := by simp only [List.length_append, be2, List.length_cons, List.length_nil]; omega
            have HB4 := Aside.mk hbs3
            clear hbs3 hI hI1 hs1 hk1 hbg1 hbg2 h0 h1 h2 hab hl1 hl2 hbl2
            generalize hX : wr.heap.size = X at *
            clear hX
            go_wp2_with (at_builtin; go_loud (refine app_b1 rfl _ _ 26 rfl 5 Try.underlying26 Try.info5 (w.heap.size + 1) u5 _ rfl (hI6.own.alloc _) wc.heap.size #[.int .u8 (nr : Int)] [b8 nr] 1 1 rfl (Blk.new _ _ _) (by rw [List.map_cons, List.map_nil, b8_u8v, Int.emod_eq_of_lt (by omega) (by omega)]) rfl (by decide) hbl7 (by have := hI6.sz; simp; omega) ?_; intro v4 w4 ho4 hg4 ha4; have hI7 := (hI6.alloc (.cells #[.int .u8 (nr : Int)] 5)).grew ho4 hg4; have hs7 := (hs6.alloc (.cells #[.int .u8 (nr : Int)] 5)).grown hg4 (own_blk_ne (hI6.own.alloc (.cells #[.int .u8 (nr : Int)] 5)) (hs6.alloc (.cells #[.int .u8 (nr : Int)] 5)) (by decide)); obtain ⟨d0, d1, dl⟩ := hI7.cells; obtain ⟨k0, k1, k2⟩ := blk3 hs7))
            rw [← HB4.out] at hI7
            clear hI6 hs6 ho4 hg4 ha4 hbl7
            have hbl5 := hbl4
            clear hbl4
            go_loopw [5, 9] (fun v j wr => ∃ q : Nat, ∃ bs4 : List UInt8, j = .int .i64 q ∧ q ≤ nr ∧ bs4.length ≤ 45 + 305 * m + 25 * q ∧ Aside (bs4 = bs3 ++ (s.ranges.take q).flatMap encRng) ∧ RInv w #[.slice AL k cL, .slice (some a) nS cS] wr v bs4 ∧ Blk wr X 40 #[.int .i64 s.id, .int .i64 s.from_, .slice Av nr cv]) (fun v j wr => nr - (intOf j).toNat)
            case atStart => exact ⟨0, _, rfl, Nat.zero_le _, by omega, ⟨by simp⟩, hI7, hs7⟩
            case round =>
              clear hI7 hs7 d0 d1 dl k0 k1 k2
              obtain ⟨q, bs4, rfl, hq, hbl6, HB5, hI, hs⟩ := hrel
              obtain ⟨d0, d1, dl⟩ := hI.cells
              obtain ⟨k0, k1, k2⟩ := blk3 hs
              by_cases hltq : q < nr
              · have hltq' : q < s.ranges.length := by rw [← HNR.out]; exact hltq
                obtain ⟨a2, rfl, hab2, g0, g1, g2⟩ := rdRng_at hv q hltq'
                have HT2 := Aside.mk (take_flat (f := encRng) hltq')
                have hnm := hN16.out _ (List.getElem_mem hltq')
                generalize s.ranges[q] = r at *
                have hab3 : (a2.add (q * 3)).block < w.heap.size := by rw [block_of_add]; exact hab2
                have HG : Aside (∀ W, Below w.heap.size w W → W.cell? (a2.add (q * 3)) = some (.string r.name) ∧ W.cell? ⟨(a2.add (q * 3)).block, (a2.add (q * 3)).off + 1, none⟩ = some (.int .i64 r.lo) ∧ W.cell? ⟨(a2.add (q * 3)).block, (a2.add (q * 3)).off + 2, none⟩ = some (.int .i64 r.hi)) :=
                  ⟨fun W h => ⟨(h.cell hab3).trans g0, (h.cell (p := ⟨(a2.add (q * 3)).block, (a2.add (q * 3)).off + 1, none⟩) hab3).trans g1, (h.cell (p := ⟨(a2.add (q * 3)).block, (a2.add (q * 3)).off + 2, none⟩) hab3).trans g2⟩⟩
                clear g0 g1 g2
                obtain ⟨g0, g1, g2⟩ := HG.out _ hI.bel
                have hsd : r.name.data.toList.length = r.name.size := Array.length_toList
                have hl1 : bs4.length + [b8 (r.name.size : Int)].length ≤ 140737488355328 := by simp only [List.length_cons, List.length_nil]; omega
                have hl2 : (bs4 ++ [b8 (r.name.size : Int)]).length + r.name.size ≤ 140737488355328 := by rw [List.length_append]; simp only [List.length_cons, List.length_nil]; omega
                have hl3 : (bs4 ++ [b8 (r.name.size : Int)] ++ r.name.data.toList).length + (be4 r.lo).length ≤ 140737488355328 := by simp only [List.length_append, hsd, be4, List.length_cons, List.length_nil]; omega
                have hl4 : (bs4 ++ [b8 (r.name.size : Int)] ++ r.name.data.toList ++ be4 r.lo).length + (be4 r.hi).length ≤ 140737488355328 := by simp only [List.length_append, hsd, be4, List.length_cons, List.length_nil]; omega
                have hl5 : (bs4 ++ [b8 (r.name.size : Int)] ++ r.name.data.toList ++ be4 r.lo ++ be4 r.hi).length ≤ 45 + 305 * m + 25 * (q + 1) := by simp only [List.length_append, hsd, be4, List.length_cons, List.length_nil]; omega
                have HL5 := Aside.mk hl5
                clear HR HT HB3 HB4 hv hN16 hsd hl5
                go_upto_region 21 with (first
                  | (at_builtin; refine app_b1 rfl _ _ 26 rfl 5 Try.underlying26 Try.info5 (w.heap.size + 1) u5 bs4 rfl (hI.own.alloc _) wr.heap.size #[.int .u8 (r.name.size : Int)] [b8 r.name.size] 1 1 rfl (Blk.new _ _ _) (by rw [List.map_cons, List.map_nil, b8_u8v, Int.emod_eq_of_lt (by omega) (by omega)]) rfl (by decide) hl1 (by have := hI.sz; simp; omega) ?_; intro v4 w4 ho4 hg4 ha4; have hI1 := (hI.alloc (.cells #[.int .u8 (r.name.size : Int)] 5)).grew ho4 hg4; have hs1 := (hs.alloc (.cells #[.int .u8 (r.name.size : Int)] 5)).grown hg4 (own_blk_ne (hI.own.alloc (.cells #[.int .u8 (r.name.size : Int)] 5)) (hs.alloc (.cells #[.int .u8 (r.name.size : Int)] 5)) (by decide)); obtain ⟨k0, k1, k2⟩ := blk3 hs1; obtain ⟨g0, g1, g2⟩ := HG.out _ hI1.bel)
                  | (at_builtin; refine app_bs rfl _ _ 26 9 rfl (w.heap.size + 1) 5 Try.underlying26 Try.underlying9 Try.info5 v4 _ rfl hI1.own r.name rfl hl2 hI1.sz ?_; intro v5 w5 ho5 hg5 ha5; have hI2 := hI1.grew ho5 hg5; have hs2 := hs1.grown hg5 (own_blk_ne hI1.own hs1 (by decide)); obtain ⟨k0, k1, k2⟩ := blk3 hs2; obtain ⟨g0, g1, g2⟩ := HG.out _ hI2.bel))
                clear hI hs hI1 hs1 ho4 hg4 ha4 ho5 hg5 ha5 hl1 hl2
                have hk1 : w5.drew.cell? ⟨X, 2, none⟩ = some (.slice (some a2) nr cv) ∧ w5.drew.cell? ⟨(a2.add (q * 3)).block, (a2.add (q * 3)).off + 1, none⟩ = some (.int .i64 r.lo) ∧ w5.drew.cell? ⟨(a2.add (q * 3)).block, (a2.add (q * 3)).off + 2, none⟩ = some (.int .i64 r.hi) := ⟨k2, g1, g2⟩
                have HK : Aside (∀ W, Below w.heap.size w W → Blk W X 40 #[.int .i64 s.id, .int .i64 s.from_, .slice (some a2) nr cv] → W.cell? ⟨X, 2, none⟩ = some (.slice (some a2) nr cv) ∧ W.cell? ⟨(a2.add (q * 3)).block, (a2.add (q * 3)).off + 1, none⟩ = some (.int .i64 r.lo) ∧ W.cell? ⟨(a2.add (q * 3)).block, (a2.add (q * 3)).off + 2, none⟩ = some (.int .i64 r.hi)) :=
                  ⟨fun W h hb => ⟨(blk3 hb).2.2, (HG.out W h).2⟩⟩
                have hI3 := hI2.drew
                have hs3 : Blk w5.drew X 40 #[.int .i64 s.id, .int .i64 s.from_, .slice (some a2) nr cv] := hs2
                have hbg1 := big4 r.lo w5.drew
                have hbg2 := fun w => big4 r.hi w
                clear hI2 hs2
                have i0 : (0 : Int) ≤ (q : Int) := Int.natCast_nonneg _
                have i1 : (q : Int) < (nr : Int) := by omega
                go_region_held3 (fun w' => w'.cell? ⟨X, 2, none⟩ = some (.slice (some a2) nr cv) ∧ w'.cell? ⟨(a2.add (q * 3)).block, (a2.add (q * 3)).off + 1, none⟩ = some (.int .i64 r.lo) ∧ w'.cell? ⟨(a2.add (q * 3)).block, (a2.add (q * 3)).off + 2, none⟩ = some (.int .i64 r.hi))
                  (first | exact hk7 | exact hk6 | exact hk5 | exact hk4 | exact hk1 | go_keep)
                  (first
                    | (go_at_call 25; ((with_reducible refine hbg1.mono ?_)); rintro e w6 ⟨v6, rfl, ho6, hb6⟩; have hI4 := hI3.below hb6; have hs4 := hs3.below hb6 hs3.lt; have hk4 := HK.out _ hI4.bel hs4)
                    | (go_at_call 25; ((with_reducible refine (hbg2 _).mono ?_)); rintro e w8 ⟨v8, rfl, ho8, hb8⟩; have hI6 := hI5.below hb8; have hs6 := hs5.below hb8 hs5.lt; have hk6 := HK.out _ hI6.bel hs6)
                    | (refine step_app_b rfl _ _ 26 rfl 5 Try.underlying26 Try.info5 (w.heap.size + 1) v7 _ (by rfl) hI6.own _ (be4 r.hi) _ (by rfl) ho8.rd hl4 hI6.sz ?_; intro v9 w9 ho9 hg9 ha9; have hI7 := hI6.grew ho9 hg9; have hs7 := hs6.grown hg9 (own_blk_ne hI6.own hs6 (by decide)); have hk7 := HK.out _ hI7.bel hs7)
                    | (refine step_app_b rfl _ _ 26 rfl 5 Try.underlying26 Try.info5 (w.heap.size + 1) v5 _ (by rfl) hI4.own _ (be4 r.lo) _ (by rfl) ho6.rd hl3 hI4.sz ?_; intro v7 w7 ho7 hg7 ha7; have hI5 := hI4.grew ho7 hg7; have hs5 := hs4.grown hg7 (own_blk_ne hI4.own hs4 (by decide)); have hk5 := HK.out _ hI5.bel hs5))
                all_goals
                  have HB6 : Aside (bs4 ++ [b8 (r.name.size : Int)] ++ r.name.data.toList ++ be4 r.lo ++ be4 r.hi = bs3 ++ (s.ranges.take (q + 1)).flatMap encRng) := ⟨by rw [HT2.out, HB5.out, encRng]; simp⟩
                  clear HT2 HB5 hI3 hI4 hI5 hI6 hs3 hs4 hs5 hs6 ho6 ho7 ho8 ho9 hg7 hg9 hb6 hb8 ha7 ha9
                  go_wp2
                  go_roundw
                  case rel => exact ⟨q + 1, _, by go_num, by omega, HL5.out, HB6, hI7, hs7⟩
                  case measure => simp [intOf]; omega
              · obtain rfl : q = nr := by omega
                have HB6 : Aside (bs4 = bs ++ [b8 nS] ++ (subs.take (m + 1)).flatMap encSub) := ⟨by rw [HT.out, HB5.out, HB4.out, HB3.out, HNR.out, List.take_length, encSub]; simp⟩
                clear HT HB5 HB4 HB3 hv hN16
                go_wp2
                go_roundw
                case rel => exact ⟨m + 1, _, by go_num, by omega, by omega, HB6, hI⟩
                case measure => simp [intOf]; omega
        · obtain rfl : m = nS := by omega
          have HF : Aside (bs2 = R) := ⟨by rw [HB3.out, HNS.out, List.take_length, HR.out, HB2.out, HNL.out]; simp⟩
          have ho := hI.own
          rw [HF.out] at ho
          have hB := hI.bel
          clear HB3 HF HR HB2 hL hS hI
          go_wp2
          go_ret2
          exact ⟨_, rfl, ho.less (by omega), hB⟩
end Go.Proofs.Ytamaihlpdebekaa
