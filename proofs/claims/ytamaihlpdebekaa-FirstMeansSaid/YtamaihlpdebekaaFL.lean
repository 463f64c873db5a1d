/- first: Few; Ints and Same at equal data. -/
import Derived.Test.YtamaihlpdebekaaFK
namespace Go.Proofs.Ytamaihlpdebekaa
open Go.RowKit
set_option linter.unusedVariables false
set_option linter.unusedSimpArgs false

def SomeBool (w : World) (e : Ending) (w' : World) : Prop := ∃ b, e = .returned (.bool b) ∧ Below w.heap.size w w'

set_option maxHeartbeats 1000000 in
theorem few9 (vL vS : Value) (f : First) (w : World) (hL : enI64.Rd w vL f.links) (hS : enSub.Rd w vS f.subs) (hnL : f.links.length ≤ maxLen) (hnS : f.subs.length ≤ maxLen) (hnR : ∀ s ∈ f.subs, s.ranges.length ≤ maxLen) :
    Calls Try.prog 9 #[.agg #[vL, vS]] w (SomeBool w) := by
  obtain ⟨links, subs⟩ := f
  simp only at *
  unfold maxLen at hnL hnS
  obtain ⟨AL, cL, rfl, hlL⟩ := hL.form
  obtain ⟨AS, cS, rfl, hlS⟩ := hS.form
  obtain ⟨nS, hNS⟩ : ∃ n, n = subs.length := ⟨_, rfl⟩
  rw [← hNS] at hnS hlS hS ⊢
  have HNS := Aside.mk hNS
  generalize links.length = nL at *
  clear hNS hL
  have hB0 : Below w.heap.size w (w.alloc (.cells #[.slice AL nL cL, .slice AS nS cS] 25)) := (Below.refl _ _).alloc (Nat.le_refl _) _
  have hS0 := hS.below hB0
  clear hS
  go_enter Try.func9, Try.ntmps9
  go_wp2
  go_loop [3, 4, 5] (fun n j u5 => ∃ z : Int, ∃ k : Nat, n = .int .i64 z ∧ j = .int .i64 k ∧ k ≤ nS) (fun n j u5 => nS - (intOf j).toNat)
  case atStart => exact ⟨_, 0, rfl, rfl, Nat.zero_le _⟩
  case round =>
    obtain ⟨z, k, rfl, rfl, hk⟩ := hrel
    by_cases hlt : k < nS
    · have hlt' : k < subs.length := by rw [← HNS.out]; exact hlt
      obtain ⟨a, v, rfl, hab, hv, h0, h1, h2⟩ := rdSub_at hS0 k hlt'
      have hnr := hnR _ (List.getElem_mem hlt')
      generalize subs[k] = s at *
      obtain ⟨Av, cv, rfl, hlv⟩ := hv.form
      obtain ⟨nr, hnr'⟩ : ∃ n, n = s.ranges.length := ⟨_, rfl⟩
      rw [← hnr'] at h2 hnr hv hlv
      have HNR := Aside.mk hnr'
      unfold maxLen at hnr
      clear hnr' hS0 h0 h1
      go_wp2
      go_loop [5] (fun j => ∃ q : Nat, j = .int .i64 q ∧ q ≤ nr) (fun j => nr - (intOf j).toNat)
      case atStart => exact ⟨0, rfl, Nat.zero_le _⟩
      case round =>
        obtain ⟨q, rfl, hq⟩ := hrel
        by_cases hltq : q < nr
        · have hltq' : q < s.ranges.length := by rw [← HNR.out]; exact hltq
          obtain ⟨a2, rfl, hab2, g0, g1, g2⟩ := rdRng_at hv q hltq'
          generalize s.ranges[q] = r at *
          clear hv
          by_cases h100 : 100 < r.name.size
          · go_wp2
            go_ret
            exact ⟨_, rfl, hB0⟩
          · go_wp2
            go_round
            case rel => exact ⟨q + 1, by go_num, by omega⟩
            case measure => simp [intOf]; omega
        · clear hv
          go_wp2
          go_round
          case rel => exact ⟨_, k + 1, rfl, by go_num, by omega⟩
          case measure => simp [intOf]; omega
    · clear hS0
      go_wp2
      go_ret
      exact ⟨_, rfl, hB0⟩

set_option maxHeartbeats 1000000 in
theorem ints20 (va vb : Value) (xs : List Int) (w : World) (ha : enI64.Rd w va xs) (hb : enI64.Rd w vb xs) (hn : xs.length ≤ maxLen) :
    Calls Try.prog 20 #[va, vb] w fun e w' => e = .returned (.bool true) ∧ Below w.heap.size w w' := by
  unfold maxLen at hn
  obtain ⟨A, cA, rfl, hlA⟩ := ha.form
  obtain ⟨B, cB, rfl, hlB⟩ := hb.form
  obtain ⟨n, hN⟩ : ∃ n, n = xs.length := ⟨_, rfl⟩
  rw [← hN] at hn hlA hlB ha hb ⊢
  have HN := Aside.mk hN
  clear hN
  go_enter Try.func20, Try.ntmps20
  go_wp2
  go_loopw [5] (fun j wr => ∃ k : Nat, j = .int .i64 k ∧ k ≤ n ∧ ∃ m, wr = w.drewN m) (fun j wr => n - (intOf j).toNat)
  case atStart => exact ⟨0, rfl, Nat.zero_le _, 0, rfl⟩
  case round =>
    obtain ⟨k, rfl, hk, m, rfl⟩ := hrel
    by_cases hlt : k < n
    · have hlt' : k < xs.length := by rw [← HN.out]; exact hlt
      obtain ⟨a, rfl, haa, h0⟩ := rdI_at ha k hlt'
      obtain ⟨b, rfl, hbb, g0⟩ := rdI_at hb k hlt'
      generalize xs.getD k 0 = y at *
      have i0 : (0 : Int) ≤ (k : Int) := Int.natCast_nonneg _
      have i1 : (k : Int) < (n : Int) := by omega
      clear ha hb
      go_wp2
      go_quiet (fail)
      go_wp2
      go_roundw
      case rel => exact ⟨k + 1, by go_num, by omega, _, rfl⟩
      case measure => simp [intOf]; omega
    · clear ha hb
      go_wp2
      go_ret
      exact ⟨rfl, below_drewN (Below.refl _ _) _⟩

theorem eq_struct46 (d : Nat) (w : World) (x0 y0 : ByteArray) (x1 y1 : Int) (x2 y2 : Int) :
    (Op.equalIn (d + 2) 46 (.agg #[.string x0, .int .i64 x1, .int .i64 x2]) (.agg #[.string y0, .int .i64 y1, .int .i64 y2])).run Try.prog w = .ok (x0.toList == y0.toList && (x1 == y1 && (x2 == y2 && true))) w := by
  refine eqS Try.underlying46 (by kernel_rfl) ?_
  refine eqf1 (by rfl) (by first | (go_simp; done) | (go_simp; rfl)) (by first | (go_simp; done) | (go_simp; rfl)) (by first | (go_simp; done) | (go_simp; rfl)) ?_
  refine eqf1 (by rfl) (by first | (go_simp; done) | (go_simp; rfl)) (by first | (go_simp; done) | (go_simp; rfl)) (by first | (go_simp; done) | (go_simp; rfl)) ?_
  refine eqf1 (by rfl) (by first | (go_simp; done) | (go_simp; rfl)) (by first | (go_simp; done) | (go_simp; rfl)) (by first | (go_simp; done) | (go_simp; rfl)) ?_
  simp [Op.eqFields]
theorem eq_same46 (d : Nat) (w : World) (x0 : ByteArray) (x1 x2 : Int) :
    (Op.equalIn (d + 2) 46 (.agg #[.string x0, .int .i64 x1, .int .i64 x2]) (.agg #[.string x0, .int .i64 x1, .int .i64 x2])).run Try.prog w = .ok true w := by
  rw [eq_struct46]
  simp

set_option maxHeartbeats 1000000 in
theorem same14 (vL vS vL' vS' : Value) (f : First) (w : World) (hL : enI64.Rd w vL f.links) (hS : enSub.Rd w vS f.subs) (hL' : enI64.Rd w vL' f.links) (hS' : enSub.Rd w vS' f.subs) (hnL : f.links.length ≤ maxLen) (hnS : f.subs.length ≤ maxLen) (hnR : ∀ s ∈ f.subs, s.ranges.length ≤ maxLen) :
    Calls Try.prog 14 #[.agg #[vL, vS], .agg #[vL', vS']] w fun e w' => e = .returned (.bool true) ∧ Below w.heap.size w w' := by
  obtain ⟨links, subs⟩ := f
  simp only at *
  unfold maxLen at hnS
  have hB0 : Below w.heap.size w ((w.alloc (.cells #[vL, vS] 25)).alloc (.cells #[vL', vS'] 25)) := below_alloc ((Below.refl _ _).alloc (Nat.le_refl _) _) _
  have hints := ints20 vL vL' links _ (hL.below hB0) (hL'.below hB0) hnL
  obtain ⟨AL, cL, rfl, hlL⟩ := hL.form
  obtain ⟨AS, cS, rfl, hlS⟩ := hS.form
  obtain ⟨AL', cL', rfl, hlL'⟩ := hL'.form
  obtain ⟨AS', cS', rfl, hlS'⟩ := hS'.form
  obtain ⟨nS, hNS⟩ : ∃ n, n = subs.length := ⟨_, rfl⟩
  rw [← hNS] at hnS hlS hS hlS' hS' hB0 hints ⊢
  have HNS := Aside.mk hNS
  generalize links.length = nL at *
  clear hNS hL hL'
  have hx1 : Blk ((w.alloc (.cells #[.slice AL nL cL, .slice AS nS cS] 25)).alloc (.cells #[.slice AL' nL cL', .slice AS' nS cS'] 25)) w.heap.size 25 #[.slice AL nL cL, .slice AS nS cS] := (Blk.new w 25 _).alloc _
  have hx2 : Blk ((w.alloc (.cells #[.slice AL nL cL, .slice AS nS cS] 25)).alloc (.cells #[.slice AL' nL cL', .slice AS' nS cS'] 25)) (w.heap.size + 1) 25 #[.slice AL' nL cL', .slice AS' nS cS'] := by
    have := Blk.new (w.alloc (.cells #[.slice AL nL cL, .slice AS nS cS] 25)) 25 #[.slice AL' nL cL', .slice AS' nS cS']
    rwa [World.size_alloc] at this
  go_enter Try.func14, Try.ntmps14
  go_wp2_with fail
  refine hints.mono ?_
  rintro e w1 ⟨rfl, hb1⟩
  obtain ⟨hc, hf⟩ := bcell hb1
  have hB1 := below_step hB0 hb1
  have hy1 := hx1.below hb1 (by simp; omega)
  have hy2 := hx2.below hb1 (by simp)
  clear hints hB0 hx1 hx2
  go_wp2
  go_loopw [5, 6, 7, 8] (fun j u6 u7 u8 wr => ∃ k : Nat, j = .int .i64 k ∧ k ≤ nS ∧ Below w.heap.size w wr ∧ Blk wr w.heap.size 25 #[.slice AL nL cL, .slice AS nS cS] ∧ Blk wr (w.heap.size + 1) 25 #[.slice AL' nL cL', .slice AS' nS cS']) (fun j u6 u7 u8 wr => nS - (intOf j).toNat)
  case atStart => exact ⟨0, rfl, Nat.zero_le _, hB1, hy1, hy2⟩
  case round =>
    clear hB1 hy1 hy2 hc hf
    obtain ⟨k, rfl, hk, hB, hx1, hx2⟩ := hrel
    have hd1 := hx1.cell 1
    have hd2 := hx2.cell 1
    have hlt1 := hx1.lt
    have hlt2 := hx2.lt
    simp only [List.getElem?_toArray, List.getElem?_cons_zero, List.getElem?_cons_succ] at hd1 hd2
    by_cases hlt : k < nS
    · have hlt' : k < subs.length := by rw [← HNS.out]; exact hlt
      obtain ⟨a, v, rfl, hab, hv, h0, h1, h2⟩ := rdSub_at hS k hlt'
      obtain ⟨b, v', rfl, hbb, hv', g0, g1, g2⟩ := rdSub_at hS' k hlt'
      replace h0 := (hB.cell (by rw [block_of_add]; exact hab)).trans h0
      replace h1 := (hB.cell (by rw [block_of_add]; exact hab)).trans h1
      replace h2 := (hB.cell (by rw [block_of_add]; exact hab)).trans h2
      replace g0 := (hB.cell (by rw [block_of_add]; exact hbb)).trans g0
      replace g1 := (hB.cell (by rw [block_of_add]; exact hbb)).trans g1
      replace g2 := (hB.cell (by rw [block_of_add]; exact hbb)).trans g2
      have hal : ∀ o i, ⟨(b.add (k * 3)).block, o, none⟩ = (⟨(b.add (k * 3)).block, i, none⟩ : Addr) → True := fun _ _ _ => trivial
      have hblt : (b.add (k * 3)).block < wr.heap.size := by rw [block_of_add]; exact Nat.lt_of_lt_of_le hbb hB.size
      have hnr := hnR _ (List.getElem_mem hlt')
      generalize subs[k] = s at *
      obtain ⟨Av, cv, rfl, hlv⟩ := hv.form
      obtain ⟨Av', cv', rfl, hlv'⟩ := hv'.form
      obtain ⟨nr, hnr'⟩ : ∃ n, n = s.ranges.length := ⟨_, rfl⟩
      rw [← hnr'] at h2 g2 hnr hv hlv hv' hlv'
      have HNR := Aside.mk hnr'
      unfold maxLen at hnr
      have e0 : (s.id != s.id) = false := by simp
      have e1 : (s.from_ != s.from_) = false := by simp
      clear hnr' hS hS' hal
      have heq := eq_same46
      go_wp2
      have hN1 := hx1.alloc (.cells #[.int .i64 s.id, .int .i64 s.from_, .slice Av nr cv] 40)
      have hN2 := hx2.alloc (.cells #[.int .i64 s.id, .int .i64 s.from_, .slice Av nr cv] 40)
      have hN3 := (Blk.new wr 40 #[.int .i64 s.id, .int .i64 s.from_, .slice Av nr cv]).alloc (.cells #[.int .i64 s.id, .int .i64 s.from_, .slice Av' nr cv'] 40)
      have hN4 := Blk.new (wr.alloc (.cells #[.int .i64 s.id, .int .i64 s.from_, .slice Av nr cv] 40)) 40 #[.int .i64 s.id, .int .i64 s.from_, .slice Av' nr cv']
      rw [World.size_alloc] at hN4
      go_loopw [8] (fun j wz => ∃ q : Nat, j = .int .i64 q ∧ q ≤ nr ∧ Below w.heap.size w wz ∧ Blk wz w.heap.size 25 #[.slice AL nL cL, .slice (some a) nS cS] ∧ Blk wz (w.heap.size + 1) 25 #[.slice AL' nL cL', .slice (some b) nS cS'] ∧ Blk wz wr.heap.size 40 #[.int .i64 s.id, .int .i64 s.from_, .slice Av nr cv] ∧ Blk wz (wr.heap.size + 1) 40 #[.int .i64 s.id, .int .i64 s.from_, .slice Av' nr cv']) (fun j wz => nr - (intOf j).toNat)
      case atStart => exact ⟨0, rfl, Nat.zero_le _, below_alloc (below_alloc hB _) _, hN1.alloc _, hN2.alloc _, hN3, hN4⟩
      case round =>
        clear hN1 hN2 hN3 hN4 hd1 hd2 h0 h1 h2 g0 g1 g2 hx1 hx2 hB
        obtain ⟨q, rfl, hq, hB, hx1, hx2, hy1, hy2⟩ := hrel
        have hd1 := hy1.cell 2
        have hd2 := hy2.cell 2
        simp only [List.getElem?_toArray, List.getElem?_cons_zero, List.getElem?_cons_succ] at hd1 hd2
        by_cases hltq : q < nr
        · have hltq' : q < s.ranges.length := by rw [← HNR.out]; exact hltq
          obtain ⟨a2, rfl, hab2, p0, p1, p2⟩ := rdRng_at (hv.below hB) q hltq'
          obtain ⟨b2, rfl, hbb2, q0, q1, q2⟩ := rdRng_at (hv'.below hB) q hltq'
          generalize s.ranges[q] = r at *
          have i0 : (0 : Int) ≤ (q : Int) := Int.natCast_nonneg _
          have i1 : (q : Int) < (nr : Int) := by omega
          clear hv hv'
          go_wp2_with fail
          go_quiet (fail)
          go_wp2
          go_roundw
          case rel => exact ⟨q + 1, by go_num, by omega, below_drewN hB _, hx1, hx2, hy1, hy2⟩
          case measure => simp [intOf]; omega
        · clear hv hv'
          go_wp2
          go_roundw
          case rel => exact ⟨k + 1, by go_num, by omega, hB, hx1, hx2⟩
          case measure => simp [intOf]; omega
    · clear hS hS'
      go_wp2
      go_ret
      exact ⟨rfl, hB⟩
end Go.Proofs.Ytamaihlpdebekaa
