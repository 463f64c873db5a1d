/- first: what the codec does, in plain terms: what was laid is read, parts are short, more is more, what is read was laid so. No program in it but the definitions. -/
import Derived.Test.YtamaihlpdebekaaFM
namespace Go.Proofs.Ytamaihlpdebekaa
open Go.RowKit
set_option linter.unusedVariables false
set_option linter.unusedSimpArgs false

/-- A reader and what it reads. -/
structure Cdc {T : Type} (r : RSt → T × RSt) (enc : T → List UInt8) (ok good : T → Prop) : Prop where
  fwd : ∀ x rest, ok x → r (enc x ++ rest, 0) = (x, (rest, 0))
  bwd : ∀ s x rest, r (s, 0) = (x, (rest, 0)) → s = enc x ++ rest ∧ good x
  short : ∀ x p q, ok x → enc x = p ++ q → q ≠ [] → (r (p, 0)).2.2 = 2
  stick : ∀ s e, e ≠ 0 → (r (s, e)).2.2 = e

theorem Cdc.bind {T U : Type} {r : RSt → T × RSt} {enc : T → List UInt8} {ok good : T → Prop} {k : T → RSt → U × RSt} {encU : U → List UInt8} {okU goodU : U → Prop} (pr : U → T)
    (hr : Cdc r enc ok good) (hk : ∀ x, Cdc (k x) encU (fun u => okU u ∧ pr u = x) (fun u => goodU u ∧ pr u = x)) :
    Cdc (fun s => k (r s).1 (r s).2) (fun u => enc (pr u) ++ encU u) (fun u => ok (pr u) ∧ okU u) (fun u => good (pr u) ∧ goodU u) where
  fwd := fun u rest h => by
    show k (r _).1 (r _).2 = _
    rw [List.append_assoc, hr.fwd (pr u) _ h.1]
    exact (hk (pr u)).fwd u rest ⟨h.2, rfl⟩
  bwd := fun s u rest h => by
    have h : k (r (s, 0)).1 (r (s, 0)).2 = (u, (rest, 0)) := h
    by_cases he : (r (s, 0)).2.2 = 0
    · have e1 : (r (s, 0)).2 = ((r (s, 0)).2.1, 0) := Prod.ext rfl he
      rw [e1] at h
      obtain ⟨h1, h2, h3⟩ := (hk _).bwd _ _ _ h
      obtain ⟨g1, g2⟩ := hr.bwd s (r (s, 0)).1 (r (s, 0)).2.1 (by rw [← e1])
      rw [h3]
      exact ⟨by rw [List.append_assoc, ← h1]; exact g1, g2, h2⟩
    · have := (hk (r (s, 0)).1).stick (r (s, 0)).2.1 (r (s, 0)).2.2 he
      rw [show ((r (s, 0)).2.1, (r (s, 0)).2.2) = (r (s, 0)).2 from rfl, h] at this
      exact absurd this.symm he
  short := fun u p q h hpq hq => by
    have hpq : enc (pr u) ++ encU u = p ++ q := hpq
    show (k (r (p, 0)).1 (r (p, 0)).2).2.2 = 2
    by_cases hl : p.length < (enc (pr u)).length
    · have h2 := hr.short (pr u) p ((enc (pr u)).drop p.length) h.1 (by
        have : p = (enc (pr u)).take p.length := by
          have := congrArg (List.take p.length) hpq
          rw [List.take_append_of_le_length (by omega), List.take_left] at this
          exact this.symm
        rw [← List.take_append_drop p.length (enc (pr u)), ← this, List.drop_left]) (fun e => by
        have := congrArg List.length e
        rw [List.length_drop, List.length_nil] at this
        omega)
      have := (hk (r (p, 0)).1).stick (r (p, 0)).2.1 2 (by decide)
      rw [← h2] at this
      exact this.trans h2
    · obtain ⟨p', rfl⟩ : ∃ p', p = enc (pr u) ++ p' := ⟨p.drop (enc (pr u)).length, by
        have := congrArg (List.take (enc (pr u)).length) hpq
        rw [List.take_left, List.take_append_of_le_length (by omega)] at this
        rw [this]
        conv => lhs; rw [← List.take_append_drop (List.take (enc (pr u)).length p).length p]
        rw [List.length_take, Nat.min_eq_left (by omega)]⟩
      rw [hr.fwd (pr u) p' h.1]
      rw [List.append_assoc] at hpq
      exact (hk (pr u)).short u p' q ⟨h.2, rfl⟩ (List.append_cancel_left hpq) hq
  stick := fun s e he => by
    show (k (r (s, e)).1 (r (s, e)).2).2.2 = e
    have h1 := hr.stick s e he
    have := (hk (r (s, e)).1).stick (r (s, e)).2.1 (r (s, e)).2.2 (by rw [h1]; exact he)
    exact this.trans h1

theorem Cdc.loop {T : Type} {r : RSt → T × RSt} {enc : T → List UInt8} {ok good : T → Prop} (hr : Cdc r enc ok good) : ∀ n, Cdc (loopR r n) (fun l => l.flatMap enc) (fun l => l.length = n ∧ ∀ x ∈ l, ok x) (fun l => l.length = n ∧ ∀ x ∈ l, good x)
  | 0 => {
    fwd := fun l rest h => by
      obtain rfl := List.eq_nil_of_length_eq_zero h.1
      rfl
    bwd := fun s l rest h => by
      simp only [loopR, Prod.mk.injEq] at h
      obtain ⟨rfl, rfl, _⟩ := h
      exact ⟨rfl, rfl, by simp⟩
    short := fun l p q h hpq hq => by
      obtain rfl := List.eq_nil_of_length_eq_zero h.1
      have : p ++ q = [] := hpq.symm
      exact absurd (List.append_eq_nil_iff.1 this).2 hq
    stick := fun s e he => rfl }
  | n + 1 => by
    have ih := Cdc.loop hr n
    refine ⟨fun l rest h => ?_, fun s l rest h => ?_, fun l p q h hpq hq => ?_, fun s e he => ?_⟩
    · match l, h with
      | x :: l, ⟨hl, hx⟩ =>
        have h1 := hr.fwd x (l.flatMap enc ++ rest) (hx x (List.mem_cons_self ..))
        have h2 := ih.fwd l rest ⟨by simpa using hl, fun y hy => hx y (List.mem_cons_of_mem _ hy)⟩
        simp only [loopR, if_true, List.flatMap_cons, List.append_assoc, h1, h2]
    · simp only [loopR, if_true] at h
      have hl := congrArg Prod.fst h
      have hs := congrArg Prod.snd h
      simp only at hl hs
      by_cases he : (r (s, 0)).2.2 = 0
      · have e1 : (r (s, 0)).2 = ((r (s, 0)).2.1, 0) := Prod.ext rfl he
        obtain ⟨g1, g2⟩ := hr.bwd s (r (s, 0)).1 (r (s, 0)).2.1 (by rw [← e1])
        rw [e1] at hl hs
        obtain ⟨k1, k2, k3⟩ := ih.bwd _ _ _ (show loopR r n ((r (s, 0)).2.1, 0) = ((loopR r n ((r (s, 0)).2.1, 0)).1, (rest, 0)) from Prod.ext rfl hs)
        subst hl
        refine ⟨?_, by simp [k2], fun x hx => ?_⟩
        · rw [List.flatMap_cons, List.append_assoc, ← k1]; exact g1
        · rcases List.mem_cons.1 hx with rfl | hx
          · exact g2
          · exact k3 x hx
      · have := ih.stick (r (s, 0)).2.1 (r (s, 0)).2.2 he
        rw [show ((r (s, 0)).2.1, (r (s, 0)).2.2) = (r (s, 0)).2 from rfl, hs] at this
        exact absurd this.symm he
    · match l, h with
      | x :: l, ⟨hl, hx⟩ =>
        have hpq : enc x ++ l.flatMap enc = p ++ q := by rw [← hpq, List.flatMap_cons]
        have hb := Cdc.bind (k := fun x s => ((x, (loopR r n s).1), (loopR r n s).2)) (encU := fun u : T × List T => u.2.flatMap enc) (okU := fun u => u.2.length = n ∧ ∀ y ∈ u.2, ok y) (goodU := fun _ => True) (good := fun _ => True) Prod.fst
          (⟨hr.fwd, fun s y rest h => ⟨(hr.bwd s y rest h).1, trivial⟩, hr.short, hr.stick⟩ : Cdc r enc ok (fun _ => True))
          (fun y => ⟨fun u rest h => by
              obtain ⟨⟨h1, h2⟩, rfl⟩ := h
              simp only [ih.fwd u.2 rest ⟨h1, h2⟩], fun s u rest h => by
              have h1 := congrArg Prod.fst h
              have h2 := congrArg Prod.snd h
              simp only at h1 h2
              subst h1
              exact ⟨(ih.bwd s _ rest (by rw [← h2])).1, trivial, rfl⟩, fun u p q h => ih.short u.2 p q h.1, fun s e he => ih.stick s e he⟩)
        have := hb.short (x, l) p q ⟨hx x (List.mem_cons_self ..), by simpa using hl, fun y hy => hx y (List.mem_cons_of_mem _ hy)⟩ hpq hq
        simpa only [loopR, if_true] using this
    · simp only [loopR, if_neg he]

theorem Cdc.as {T : Type} {r r' : RSt → T × RSt} {enc enc' : T → List UInt8} {ok good ok' good' : T → Prop} (h : Cdc r enc ok good) (hr : ∀ s, r' s = r s) (he : ∀ x, enc' x = enc x) (hok : ∀ x, ok' x → ok x) (hgood : ∀ x, good x → good' x) : Cdc r' enc' ok' good' := by
  obtain rfl : r' = r := funext hr
  obtain rfl : enc' = enc := funext he
  exact ⟨fun x rest hx => h.fwd x rest (hok x hx), fun s x rest hx => ⟨(h.bwd s x rest hx).1, hgood _ (h.bwd s x rest hx).2⟩, fun x p q hx => h.short x p q (hok x hx), h.stick⟩
/-- The value read, told otherwise. -/
theorem Cdc.map {T U : Type} {r : RSt → T × RSt} {enc : T → List UInt8} {ok good : T → Prop} (hr : Cdc r enc ok good) (f : T → U) (g : U → T) {ok' good' : U → Prop} (hok : ∀ u, ok' u → f (g u) = u ∧ ok (g u)) (hgood : ∀ x, good x → g (f x) = x ∧ good' (f x)) :
    Cdc (fun s => (f (r s).1, (r s).2)) (fun u => enc (g u)) ok' good' where
  fwd := fun u rest h => by
    show (f (r _).1, (r _).2) = _
    rw [hr.fwd (g u) rest (hok u h).2, (hok u h).1]
  bwd := fun s u rest h => by
    have h : (f (r (s, 0)).1, (r (s, 0)).2) = (u, (rest, 0)) := h
    have h1 := congrArg Prod.fst h
    have h2 := congrArg Prod.snd h
    simp only at h1 h2
    obtain ⟨k1, k2⟩ := hr.bwd s _ rest (show r (s, 0) = ((r (s, 0)).1, (rest, 0)) from Prod.ext rfl h2)
    obtain ⟨g1, g2⟩ := hgood _ k2
    rw [← h1, g1]
    exact ⟨k1, g2⟩
  short := fun u p q h hpq hq => hr.short (g u) p q (hok u h).2 hpq hq
  stick := fun s e he => hr.stick s e he
theorem Cdc.pair {T U : Type} {r : RSt → T × RSt} {enc : T → List UInt8} {ok good : T → Prop} {k : RSt → U × RSt} {encU : U → List UInt8} {okU goodU : U → Prop} (hr : Cdc r enc ok good) (hk : Cdc k encU okU goodU) :
    Cdc (fun s => (((r s).1, (k (r s).2).1), (k (r s).2).2)) (fun u => enc u.1 ++ encU u.2) (fun u => ok u.1 ∧ okU u.2) (fun u => good u.1 ∧ goodU u.2) :=
  Cdc.bind (k := fun x s => ((x, (k s).1), (k s).2)) (encU := fun u : T × U => encU u.2) (okU := fun u => okU u.2) (goodU := fun u => goodU u.2) Prod.fst hr
    (fun y => ⟨fun u rest h => by
        obtain ⟨h1, rfl⟩ := h
        simp only [hk.fwd u.2 rest h1], fun s u rest h => by
        have h1 := congrArg Prod.fst h
        have h2 := congrArg Prod.snd h
        simp only at h1 h2
        subst h1
        have := hk.bwd s _ rest (show k (s, 0) = ((k (s, 0)).1, (rest, 0)) from Prod.ext rfl h2)
        exact ⟨this.1, this.2, rfl⟩, fun u p q h => hk.short u.2 p q h.1, fun s e he => hk.stick s e he⟩)

theorem cdc_take (n : Nat) : Cdc (fun s => takeR s n) (fun l => l) (fun l => l.length = n) (fun l => l.length = n) where
  fwd := fun l rest h => by
    have h : l.length = n := h
    subst h
    simp [takeR]
  bwd := fun s x rest h => by
    have h : takeR (s, 0) n = (x, (rest, 0)) := h
    simp only [takeR, if_true] at h
    split at h
    · simp at h
    · rename_i hlt
      simp only [Prod.mk.injEq] at h
      obtain ⟨rfl, rfl, _⟩ := h
      exact ⟨(List.take_append_drop n s).symm, by rw [List.length_take]; omega⟩
  short := fun l p q h hpq hq => by
    have h : l.length = n := h
    have hpq : l = p ++ q := hpq
    have hq' : 0 < q.length := List.length_pos_iff.2 hq
    have := congrArg List.length hpq
    rw [List.length_append] at this
    show (takeR (p, 0) n).2.2 = 2
    simp [takeR, show p.length < n by omega]
  stick := fun s e he => by
    show (takeR (s, e) n).2.2 = e
    simp [takeR, he]

theorem b8_nat (c : UInt8) (n : Int) (h : n % 256 = c.toNat) : b8 n = c := by
  unfold b8
  rw [h, Int.toNat_natCast]
  exact UInt8.ofNat_toNat
theorem b8_toNat (n : Int) : ((b8 n).toNat : Int) = n % 256 := by
  unfold b8
  have h0 : 0 ≤ n % 256 := Int.emod_nonneg _ (by decide)
  have h1 : n % 256 < 256 := Int.emod_lt_of_pos _ (by decide)
  rw [UInt8.toNat_ofNat_of_lt' (by show (n % 256).toNat < 256; omega)]
  omega
theorem beN2 (a b : UInt8) : beN [a, b] = a.toNat * 256 + b.toNat := by simp [beN]
theorem beN4 (a b c d : UInt8) : beN [a, b, c, d] = ((a.toNat * 256 + b.toNat) * 256 + c.toNat) * 256 + d.toNat := by simp [beN]

theorem cdc_two : Cdc twoR be2 (fun n => 0 ≤ n ∧ n ≤ 65535) (fun n => 0 ≤ n ∧ n ≤ 65535) :=
  ((cdc_take 2).map (fun l => ((beN l : Nat) : Int)) be2 (ok' := fun n => 0 ≤ n ∧ n ≤ 65535) (good' := fun n => 0 ≤ n ∧ n ≤ 65535) (fun n h => by
    have h1 := b8_toNat (n / 256)
    have h2 := b8_toNat n
    refine ⟨?_, rfl⟩
    show ((beN [b8 (n / 256), b8 n] : Nat) : Int) = n
    rw [beN2]
    obtain ⟨h3, h4⟩ := h
    omega) (fun l h => by
    match l, h with
    | [a, b], _ =>
      have ha := a.toNat_lt
      have hb := b.toNat_lt
      show be2 ((beN [a, b] : Nat) : Int) = [a, b] ∧ _
      rw [beN2]
      refine ⟨?_, by omega, by omega⟩
      rw [be2, b8_nat a _ (by omega), b8_nat b _ (by omega)])).as (fun _ => rfl) (fun _ => rfl) (fun _ h => h) (fun _ h => h)
theorem cdc_four : Cdc fourR be4 (fun n => -2147483648 ≤ n ∧ n ≤ 2147483647) (fun n => -2147483648 ≤ n ∧ n ≤ 2147483647) :=
  ((cdc_take 4).map (fun l => (if beN l < 2147483648 then (beN l : Int) else (beN l : Int) - 4294967296)) be4 (ok' := fun n => -2147483648 ≤ n ∧ n ≤ 2147483647) (good' := fun n => -2147483648 ≤ n ∧ n ≤ 2147483647) (fun n h => by
    have h0 := b8_toNat (n / 65536 / 256)
    have h1 := b8_toNat (n / 65536)
    have h2 := b8_toNat (n / 256)
    have h3 := b8_toNat n
    refine ⟨?_, rfl⟩
    show (if beN [b8 (n / 65536 / 256), b8 (n / 65536), b8 (n / 256), b8 n] < 2147483648 then (beN [b8 (n / 65536 / 256), b8 (n / 65536), b8 (n / 256), b8 n] : Int) else (beN [b8 (n / 65536 / 256), b8 (n / 65536), b8 (n / 256), b8 n] : Int) - 4294967296) = n
    rw [beN4]
    obtain ⟨h4, h5⟩ := h
    split <;> omega) (fun l h => by
    match l, h with
    | [a, b, c, d], _ =>
      have ha := a.toNat_lt
      have hb := b.toNat_lt
      have hc := c.toNat_lt
      have hd := d.toNat_lt
      show be4 (if beN [a, b, c, d] < 2147483648 then (beN [a, b, c, d] : Int) else (beN [a, b, c, d] : Int) - 4294967296) = [a, b, c, d] ∧ (-2147483648 ≤ (if beN [a, b, c, d] < 2147483648 then (beN [a, b, c, d] : Int) else (beN [a, b, c, d] : Int) - 4294967296) ∧ (if beN [a, b, c, d] < 2147483648 then (beN [a, b, c, d] : Int) else (beN [a, b, c, d] : Int) - 4294967296) ≤ 2147483647)
      rw [beN4]
      generalize hz : (if ((a.toNat * 256 + b.toNat) * 256 + c.toNat) * 256 + d.toNat < 2147483648 then ((((a.toNat * 256 + b.toNat) * 256 + c.toNat) * 256 + d.toNat : Nat) : Int) else ((((a.toNat * 256 + b.toNat) * 256 + c.toNat) * 256 + d.toNat : Nat) : Int) - 4294967296) = z
      have hz' : z % 4294967296 = ((((a.toNat * 256 + b.toNat) * 256 + c.toNat) * 256 + d.toNat : Nat) : Int) ∧ -2147483648 ≤ z ∧ z ≤ 2147483647 := by
        subst hz
        split <;> omega
      clear hz
      obtain ⟨hz1, hz2, hz3⟩ := hz'
      refine ⟨?_, hz2, hz3⟩
      rw [be4, b8_nat a _ (by omega), b8_nat b _ (by omega), b8_nat c _ (by omega), b8_nat d _ (by omega)])).as (fun _ => rfl) (fun _ => rfl) (fun _ h => h) (fun _ h => h)

theorem cdc_count (m : Nat) (hm : m ≤ 255) : Cdc (fun s => ((countR s m).1.toNat, (countR s m).2)) (fun n : Nat => [b8 n]) (fun n => n ≤ m) (fun n => n ≤ m) where
  fwd := fun n rest h => by
    have h : n ≤ m := h
    have hb := b8_toNat (n : Int)
    show ((countR (b8 n :: rest, 0) m).1.toNat, (countR (b8 n :: rest, 0) m).2) = _
    have e : headN (takeR (b8 n :: rest, 0) 1).1 = (b8 (n : Int)).toNat := by simp [takeR, headN]
    rw [countR, e, if_neg (by omega)]
    simp [takeR]
    omega
  bwd := fun s x rest h => by
    have h : ((countR (s, 0) m).1.toNat, (countR (s, 0) m).2) = (x, (rest, 0)) := h
    match s, h with
    | [], h => simp [countR, takeR, headN, show ¬ ((m : Int) < 0) by omega] at h
    | c :: s, h =>
      have e : headN (takeR (c :: s, 0) 1).1 = c.toNat := by simp [takeR, headN]
      rw [countR, e] at h
      split at h
      · simp at h
      · rename_i hlt
        simp [takeR] at h
        obtain ⟨rfl, rfl⟩ := h
        exact ⟨by rw [b8_nat c _ (by have := c.toNat_lt; omega)]; rfl, by omega⟩
  short := fun n p q h hpq hq => by
    have hpq : [b8 (n : Int)] = p ++ q := hpq
    obtain rfl : p = [] := by
      rcases p with _ | ⟨x, p⟩
      · rfl
      · have := congrArg List.length hpq
        have hq' : 0 < q.length := List.length_pos_iff.2 hq
        rw [List.length_append] at this
        simp only [List.length_cons, List.length_nil] at this
        omega
    show (countR ([], 0) m).2.2 = 2
    simp [countR, takeR, headN, show ¬ ((m : Int) < 0) by omega]
  stick := fun s e he => by
    show (countR (s, e) m).2.2 = e
    simp [countR, takeR, he, headN, show ¬ ((m : Int) < 0) by omega]

/-- So many, and they. -/
theorem cdc_counted {T : Type} {r : RSt → T × RSt} {enc : T → List UInt8} {ok good : T → Prop} (m : Nat) (hm : m ≤ 255) (hr : Cdc r enc ok good) :
    Cdc (fun s => loopR r (countR s m).1.toNat (countR s m).2) (fun l => b8 l.length :: l.flatMap enc) (fun l => l.length ≤ m ∧ ∀ x ∈ l, ok x) (fun l => l.length ≤ m ∧ ∀ x ∈ l, good x) :=
  (Cdc.bind (k := fun n s => loopR r n s) (encU := fun l => l.flatMap enc) (okU := fun l => ∀ x ∈ l, ok x) (goodU := fun l => ∀ x ∈ l, good x) List.length (cdc_count m hm)
    (fun n => (hr.loop n).as (fun _ => rfl) (fun _ => rfl) (fun l h => ⟨h.2, h.1⟩) (fun l h => ⟨h.2, h.1⟩))).as (fun _ => rfl) (fun _ => rfl) (fun _ h => h) (fun _ h => h)

def RngOk (r : Rng) : Prop := r.name.size ≤ 16 ∧ (-2147483648 ≤ r.lo ∧ r.lo ≤ 2147483647) ∧ (-2147483648 ≤ r.hi ∧ r.hi ≤ 2147483647)
theorem cdc_range : Cdc rangeR encRng RngOk (fun _ => True) :=
  (((((Cdc.bind (k := fun n s => takeR s n) (encU := fun l => l) (okU := fun _ => True) (goodU := fun _ => True) List.length (cdc_count 16 (by decide))
    (fun n => (cdc_take n).as (fun _ => rfl) (fun _ => rfl) (fun l h => h.2) (fun l h => ⟨trivial, h⟩))).pair cdc_four).pair cdc_four).map (U := Rng) (fun x => ⟨⟨x.1.1.toArray⟩, x.1.2, x.2⟩) (fun r => ((r.name.data.toList, r.lo), r.hi)) (ok' := RngOk) (good' := fun _ => True)
      (fun r h => ⟨rfl, ⟨⟨by have := h.1; exact this, trivial⟩, h.2.1⟩, h.2.2⟩) (fun x h => ⟨rfl, trivial⟩))).as (fun _ => rfl) (fun r => by
        show encRng r = (([b8 (r.name.data.toList.length : Nat)] ++ r.name.data.toList) ++ be4 r.lo) ++ be4 r.hi
        rw [encRng, List.append_assoc, List.append_assoc]
        rfl) (fun _ h => h) (fun _ h => h)
def SubOk (s : FSub) : Prop := (0 ≤ s.id ∧ s.id ≤ 65535) ∧ (0 ≤ s.from_ ∧ s.from_ ≤ 65535) ∧ s.ranges.length ≤ 12 ∧ ∀ r ∈ s.ranges, RngOk r
theorem cdc_sub : Cdc subR encSub SubOk (fun _ => True) :=
  (((cdc_two.pair cdc_two).pair (cdc_counted 12 (by decide) cdc_range)).map (U := FSub) (fun x => ⟨x.1.1, x.1.2, x.2⟩) (fun s => ((s.id, s.from_), s.ranges)) (ok' := SubOk) (good' := fun _ => True)
    (fun s h => ⟨rfl, ⟨h.1, h.2.1⟩, h.2.2⟩) (fun x h => ⟨rfl, trivial⟩)).as (fun _ => rfl) (fun s => by
      show encSub s = (be2 s.id ++ be2 s.from_) ++ (b8 s.ranges.length :: s.ranges.flatMap encRng)
      rw [encSub, List.append_assoc]) (fun _ h => h) (fun _ h => h)
def payR (s : RSt) : First × RSt :=
  (⟨(loopR twoR (countR s 16).1.toNat (countR s 16).2).1, (loopR subR (countR (loopR twoR (countR s 16).1.toNat (countR s 16).2).2 64).1.toNat (countR (loopR twoR (countR s 16).1.toNat (countR s 16).2).2 64).2).1⟩,
    (loopR subR (countR (loopR twoR (countR s 16).1.toNat (countR s 16).2).2 64).1.toNat (countR (loopR twoR (countR s 16).1.toNat (countR s 16).2).2 64).2).2)
def encP (f : First) : List UInt8 := b8 f.links.length :: (f.links.flatMap be2 ++ (b8 f.subs.length :: f.subs.flatMap encSub))
def PayOk (f : First) : Prop := (f.links.length ≤ 16 ∧ ∀ n ∈ f.links, 0 ≤ n ∧ n ≤ 65535) ∧ f.subs.length ≤ 64 ∧ ∀ s ∈ f.subs, SubOk s
theorem cdc_pay : Cdc payR encP PayOk (fun _ => True) :=
  (((cdc_counted 16 (by decide) cdc_two).pair (cdc_counted 64 (by decide) cdc_sub)).map (U := First) (fun x => ⟨x.1, x.2⟩) (fun f => (f.links, f.subs)) (ok' := PayOk) (good' := fun _ => True)
    (fun f h => ⟨rfl, h.1, h.2⟩) (fun x h => ⟨rfl, trivial⟩)).as (fun _ => rfl) (fun f => rfl) (fun _ h => h) (fun _ h => h)

theorem encF_pay (f : First) : encF f = [82, 83, 84, 1] ++ encP f := rfl
theorem right_pay {f : First} (h : f.right = true) : PayOk f := by
  obtain ⟨h1, h2, h3, h4⟩ := right_facts h
  refine ⟨⟨h1, fun n hn => ?_⟩, h2, fun s hs => ?_⟩
  · have := linksOk_mem h3 n hn
    omega
  · obtain ⟨k1, k2, k3⟩ := subsOk_mem h4 s hs
    obtain ⟨r1, r2, r3⟩ := ok_ranges k1
    have := linksOk_mem h3 _ r2
    exact ⟨by omega, by omega, r1, fun r hr => by
      have := r3 r hr
      exact ⟨by omega, by omega, by omega⟩⟩
theorem decodeF_pay (p : List UInt8) : decodeF ([82, 83, 84, 1] ++ p) =
    (if (payR (p, 0)).2.2 ≠ 0 then (⟨[], []⟩, (payR (p, 0)).2.2) else if 0 < (payR (p, 0)).2.1.length then (⟨[], []⟩, 5) else if !(payR (p, 0)).1.right then (⟨[], []⟩, 3) else ((payR (p, 0)).1, 0)) := by
  have h4 : ¬ ([82, 83, 84, 1] ++ p : List UInt8).length < 4 := by simp
  unfold decodeF
  rw [if_neg h4, if_neg (by simp), if_neg (by simp)]
  rfl

/-- What was laid is read as it was. -/
theorem decode_encode {f : First} (h : f.right = true) : decodeF (encF f) = (f, 0) := by
  have := cdc_pay.fwd f [] (right_pay h)
  rw [List.append_nil] at this
  rw [encF_pay, decodeF_pay, this]
  simp [h]
/-- With bytes behind it: ErrMore. -/
theorem decode_more {f : First} (h : f.right = true) (more : List UInt8) (hm : more ≠ []) : decodeF (encF f ++ more) = (⟨[], []⟩, 5) := by
  have := cdc_pay.fwd f more (right_pay h)
  rw [encF_pay, List.append_assoc, decodeF_pay, this]
  simp [List.length_pos_iff.2 hm]
/-- A part alone: ErrShort. -/
theorem decode_cut {f : First} (h : f.right = true) (cut : Nat) (hc : cut < (encF f).length) : decodeF ((encF f).take cut) = (⟨[], []⟩, 2) := by
  by_cases h4 : cut < 4
  · unfold decodeF
    rw [if_pos (by rw [List.length_take]; omega)]
  · have e : (encF f).take cut = [82, 83, 84, 1] ++ (encP f).take (cut - 4) := by
      rw [encF_pay, List.take_append]
      congr 1
      exact List.take_of_length_le (by simp; omega)
    have hl : cut - 4 < (encP f).length := by
      rw [encF_pay, List.length_append] at hc
      simp at hc
      omega
    have := cdc_pay.short f ((encP f).take (cut - 4)) ((encP f).drop (cut - 4)) (right_pay h) (List.take_append_drop _ _).symm (fun e => by
      have := congrArg List.length e
      rw [List.length_drop, List.length_nil] at this
      omega)
    rw [e, decodeF_pay, this]
    simp
/-- What is read is right, and was laid just so. -/
theorem decode_read {bs : List UInt8} (h : (decodeF bs).2 = 0) : (decodeF bs).1.right = true ∧ encF (decodeF bs).1 = bs := by
  by_cases h4 : bs.length < 4
  · rw [decodeF, if_pos h4] at h
    simp at h
  by_cases h3 : bs.take 3 ≠ [82, 83, 84]
  · rw [decodeF, if_neg h4, if_pos h3] at h
    simp at h
  by_cases h1 : bs.take 4 ≠ [82, 83, 84, 1]
  · rw [decodeF, if_neg h4, if_neg h3, if_pos h1] at h
    simp at h
  have h1 : bs.take 4 = [82, 83, 84, 1] := Decidable.not_not.1 h1
  obtain ⟨p, rfl⟩ : ∃ p, bs = [82, 83, 84, 1] ++ p := ⟨bs.drop 4, by rw [← h1, List.take_append_drop]⟩
  rw [decodeF_pay] at h ⊢
  split at h
  · rename_i he
    exact absurd h he
  · rename_i he
    split at h
    · simp at h
    · rename_i hl
      split at h
      · simp at h
      · rename_i hr
        have he : (payR (p, 0)).2.2 = 0 := Decidable.not_not.1 he
        have hl : (payR (p, 0)).2.1 = [] := List.eq_nil_of_length_eq_zero (by omega)
        have hb := (cdc_pay.bwd p (payR (p, 0)).1 [] (show payR (p, 0) = ((payR (p, 0)).1, ([], 0)) from Prod.ext rfl (Prod.ext hl he))).1
        rw [List.append_nil] at hb
        rw [if_neg (by rw [he]; simp), if_neg (by rw [hl]; simp), if_neg hr]
        refine ⟨by simpa using hr, ?_⟩
        rw [encF_pay, ← hb]
theorem decode_bad {bs : List UInt8} (h : (decodeF bs).2 ≠ 0) : (decodeF bs).1 = ⟨[], []⟩ := by
  unfold decodeF at h ⊢
  simp only at h ⊢
  split at h <;> rename_i c1
  · rw [if_pos c1]
  rw [if_neg c1]
  split at h <;> rename_i c2
  · rw [if_pos c2]
  rw [if_neg c2]
  split at h <;> rename_i c3
  · rw [if_pos c3]
  rw [if_neg c3]
  split at h <;> rename_i c4
  · rw [if_pos c4]
  rw [if_neg c4]
  split at h <;> rename_i c5
  · rw [if_pos c5]
  rw [if_neg c5]
  split at h <;> rename_i c6
  · rw [if_pos c6]
  · exact absurd rfl h
end Go.Proofs.Ytamaihlpdebekaa
