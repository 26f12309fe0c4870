/- the horizon: two of them; the walk of HorizonMore -/
import Derived.Test.YtmhckkcppmfjpaaDoorHorL
namespace Go.Proofs.YtmhckkcppmfjpaaDoor
open Go.RowKit Go.Sort

/-- Two horizons that share no block. -/
structure HE2 (w0 : World) (b1 b2 : Nat) (s t : HS) (k : Nat) (O1 O2 : Nat → Prop) (W : World) : Prop where
  e1 : HEn w0 b1 s k O1 W
  e2 : HEn w0 b2 t k O2 W
  dis : ∀ g, O1 g → ¬ O2 g
section
variable {w0 : World} {b1 b2 k k' : Nat} {s t u : HS} {O1 O2 O : Nat → Prop} {W W' : World}
theorem HEn.more (h : HEn w0 b1 s k O W) (hk : k ≤ k') : HEn w0 b1 s k' O W := ⟨h.at_, h.bel, h.ok, fun i => Nat.le_trans (h.len i) hk⟩
theorem HE2.below (h : HE2 w0 b1 b2 s t k O1 O2 W) (hb : Below W.heap.size W W') : HE2 w0 b1 b2 s t k O1 O2 W' := ⟨h.e1.below hb, h.e2.below hb, h.dis⟩
theorem HE2.bel (h : HE2 w0 b1 b2 s t k O1 O2 W) : Below w0.heap.size w0 W := h.e1.bel
theorem HE2.next1 (h : HE2 w0 b1 b2 s t k O1 O2 W) (n : HNx w0 b1 u (k + 1) O1 W W') : ∃ O, HE2 w0 b1 b2 u t (k + 1) O O2 W' := by
  obtain ⟨O, h1, h2, h3⟩ := n
  refine ⟨O, h1, (h.e2.frame h2 (fun g hg hc => h.dis g hc hg) h.e1.lo).more (Nat.le_succ k), fun g hg hc => ?_⟩
  rcases h3 g hg with h4 | h4
  · exact h.dis g h4 hc
  · have := h.e2.hi g hc; omega
theorem HE2.next2 (h : HE2 w0 b1 b2 s t k O1 O2 W) (n : HNx w0 b2 u (k + 1) O2 W W') : ∃ O, HE2 w0 b1 b2 s u (k + 1) O1 O W' := by
  obtain ⟨O, h1, h2, h3⟩ := n
  refine ⟨O, (h.e1.frame h2 (fun g hg hc => h.dis g hg hc) h.e2.lo).more (Nat.le_succ k), h1, fun g hg hc => ?_⟩
  rcases h3 g hc with h4 | h4
  · exact h.dis g hg h4
  · have := h.e1.hi g hg; omega
end
/-- What holds of the two: of all that the first one must hear of, they know the same. -/
structure MRel (ho go : Nat) (s t : HS) : Prop where
  o1 : s.oth = ho
  o2 : t.oth = go
  clock : s.clock = t.clock
  same : ∀ p, p < 64 → ho.testBit p = true → s.l p = t.l p
theorem MRel.set {ho go : Nat} {s t : HS} (h : MRel ho go s t) (p : Nat) {x y : Mk} (hxy : ho.testBit p = true → x = y) : MRel ho go (s.set p x) (t.set p y) := by
  refine ⟨h.o1, h.o2, h.clock, fun q hq hb => ?_⟩
  show (if q = p then x else s.l q) = (if q = p then y else t.l q)
  split
  · rename_i e; subst e; exact hxy hb
  · exact h.same q hq hb
theorem hasB_t {x : Nat} {p : Int} (h : hasB x p = true) : p.toNat < 64 ∧ x.testBit p.toNat = true := by
  rw [hasB_eq] at h
  simp only [Bool.and_eq_true, decide_eq_true_eq] at h
  exact ⟨by omega, h.2⟩
theorem MRel.see {ho go : Nat} {s t : HS} (h : MRel ho go s t) (st : Nat) : MRel ho go (s.see st) (t.see st) := ⟨h.o1, h.o2, by show max s.clock st = max t.clock st; rw [h.clock], h.same⟩
theorem MRel.act {ho go : Nat} {s t : HS} (h : MRel ho go s t) (a : AcH) (hh : a.kind < 3 → hasB ho a.p = hasB go a.p) : MRel ho go (s.act a) (t.act a) := by
  unfold HS.act
  split
  · rename_i k0
    have e := hh (by omega)
    unfold HS.came
    rw [h.o1, h.o2, ← e]
    split
    · rename_i hb
      have := h.same _ (hasB_t hb).1 (hasB_t hb).2
      exact (h.see _).set _ (fun _ => by rw [this])
    · exact h
  split
  · rename_i k0
    have e := hh (by omega)
    unfold HS.prom
    rw [h.o1, h.o2, ← e]
    split
    · rename_i hb
      have := h.same _ (hasB_t hb).1 (hasB_t hb).2
      exact (h.see _).set _ (fun _ => by rw [this])
    · exact h
  split
  · rename_i k0
    have e := hh (by omega)
    unfold HS.reach
    rw [h.o1, h.o2, ← e]
    split
    · rename_i hb
      have := h.same _ (hasB_t hb).1 (hasB_t hb).2
      exact h.set _ (fun _ => by rw [this])
    · exact h
  split
  · exact ⟨h.o1, h.o2, by show stampN s.clock = stampN t.clock; rw [h.clock], h.same⟩
  split
  · exact h.see _
  · exact h
theorem minL_base {f : Nat → Nat} {a : Nat} (l : List Nat) : ∀ c, a ≤ c → (∀ p ∈ l, a ≤ f p) → a ≤ minL f c l := by
  induction l with
  | nil => intro c h _; exact h
  | cons p l ih =>
    intro c h hf
    exact ih (min c (f p)) (Nat.le_min.2 ⟨h, hf p (List.mem_cons_self ..)⟩) (fun q hq => hf q (List.mem_cons_of_mem _ hq))
theorem minL_mem {f : Nat → Nat} {l : List Nat} {p : Nat} (hp : p ∈ l) : ∀ c, minL f c l ≤ f p := by
  induction l with
  | nil => cases hp
  | cons q l ih =>
    intro c
    rcases List.mem_cons.1 hp with rfl | hp
    · exact Nat.le_trans (minL_le f l _) (Nat.min_le_right _ _)
    · exact ih hp _
theorem memN_mem {x p : Nat} : p ∈ memN x ↔ p < 64 ∧ x.testBit p = true := by rw [memN, List.mem_filter, List.mem_range]
theorem MRel.all {ho go : Nat} {s t : HS} (h : MRel ho go s t) (hsub : ∀ p, p < 64 → ho.testBit p = true → go.testBit p = true) : t.all ≤ s.all ∧ t.safe ≤ s.safe := by
  have h1 : t.all ≤ s.all := by
    show t.all ≤ minL _ s.clock (memN s.oth)
    rw [h.o1]
    refine minL_base _ _ (by rw [h.clock]; exact t.all_le) (fun p hp => ?_)
    have hp' := memN_mem.1 hp
    rw [h.same p hp'.1 hp'.2]
    refine minL_mem (f := fun p => (t.l p).heard) ?_ _
    rw [h.o2]
    exact memN_mem.2 ⟨hp'.1, hsub p hp'.1 hp'.2⟩
  refine ⟨h1, ?_⟩
  show t.safe ≤ minL _ s.all (memN s.oth)
  rw [h.o1]
  refine minL_base _ _ (Nat.le_trans t.safe_le h1) (fun p hp => ?_)
  have hp' := memN_mem.1 hp
  rw [h.same p hp'.1 hp'.2]
  refine minL_mem (f := fun p => (t.l p).reached) ?_ _
  rw [h.o2]
  exact memN_mem.2 ⟨hp'.1, hsub p hp'.1 hp'.2⟩
theorem more_sub {x y : Nat} (hx : x < 18446744073709551616) (hy : y < 18446744073709551616) : ∀ p, p < 64 → (butN x (bitN 0)).testBit p = true → (butN (x ||| y) (bitN 0)).testBit p = true := by
  intro p hp h
  rw [but_bit (bitN_lt 0) p hp] at h ⊢
  rw [Nat.testBit_or]
  simp only [Bool.and_eq_true] at h ⊢
  exact ⟨by rw [h.1]; rfl, h.2⟩
theorem more_has {x y : Nat} (hx : x < 18446744073709551616) (hy : y < 18446744073709551616) (p : Int) (h : hasB (butN y x) p = false) : hasB (butN x (bitN 0)) p = hasB (butN (x ||| y) (bitN 0)) p := by
  rw [hasB_eq] at h ⊢
  rw [hasB_eq]
  by_cases hp : 0 ≤ p ∧ p < 64
  · rw [decide_eq_true hp, Bool.true_and] at h ⊢
    rw [Bool.true_and]
    have h64 : p.toNat < 64 := by omega
    rw [but_bit hx _ h64] at h
    rw [but_bit (bitN_lt 0) _ h64, but_bit (bitN_lt 0) _ h64, Nat.testBit_or]
    cases e1 : x.testBit p.toNat <;> cases e2 : y.testBit p.toNat <;> simp_all
  · rw [decide_eq_false hp, Bool.false_and, Bool.false_and]
theorem c4 {W : World} {b : Nat} {t : TypeId} {v0 v1 v2 v3 : Value} (h : BlkAt W b t #[v0, v1, v2, v3]) : W.cell? ⟨b, 0, none⟩ = some v0 ∧ W.cell? ⟨b, 1, none⟩ = some v1 ∧ W.cell? ⟨b, 2, none⟩ = some v2 ∧ W.cell? ⟨b, 3, none⟩ = some v3 := ⟨h.cell rfl, h.cell rfl, h.cell rfl, h.cell rfl⟩
set_option maxHeartbeats 6400000 in
set_option maxRecDepth 100000 in
theorem hmore_any (x y : Nat) (hx : x < 18446744073709551616) (hy : y < 18446744073709551616) (a : Option Addr) (n c : Nat) (l : List AcH) (hl : ∀ y ∈ l, y.Ok) (w : World) (hr : RdA w a n c l) (hT : Tab w) :
    Calls Tryd.prog 5 #[.int .u64 x, .int .u64 y, .slice a n c] w fun e w' => e = .returned (.bool true) ∧ Below w.heap.size w w' := by
  have hln := Lib.hid hr.len
  have hmx := Rd.le_max hr
  unfold maxLen at hmx
  have hAw := Lib.hid (awake_any w hT)
  have hxy := or_lt hx hy
  have hor := u64_or_nat x y hx hy
  go_enter Tryd.func5, Tryd.ntmps5
  go_wp2_with fail
  refine hAw.out.mono ?_
  rintro e w1 ⟨rfl, hb1⟩
  clear hAw
  by_cases hgt : 300 < n
  · have hgtI : (300 : Int) < n := by omega
    go_wp2
    go_ret
    exact ⟨rfl, hb1⟩
  have hgtI : ¬ (300 : Int) < n := by omega
  have HN1 := Lib.hid (HEn.new (w0 := w) (W := w1) 0 x hx hb1)
  go_wp2_with fail
  refine HN1.out.mono ?_
  rintro e w2 ⟨b1, rfl, E1, _, _⟩
  have HN2 := Lib.hid (HEn.new (w0 := w) (W := w2) 0 (x ||| y) hxy E1.bel)
  have hsub := Lib.hid (more_sub hx hy)
  have hhas := Lib.hid (fun p => more_has hx hy p)
  have HM0 := Lib.hid (show MRel (butN x (bitN 0)) (butN (x ||| y) (bitN 0)) (HS.nw 0 x) (HS.nw 0 (x ||| y)) from ⟨rfl, rfl, rfl, fun _ _ _ => rfl⟩)
  generalize x ||| y = xy at *
  go_wp2_with fail
  refine HN2.out.mono ?_
  rintro e w3 ⟨b2, rfl, E2, hb2, hbel⟩
  have E : HE2 w b1 b2 (HS.nw 0 x) (HS.nw 0 xy) 0 _ _ w3 := ⟨E1.below hbel, E2, fun g hg hc => by have := E1.hi g hg; subst hc; omega⟩
  clear HN1 HN2 hb1 E1 E2 hor hb2 hbel
  have hyx := but_lt y x hy
  have handn := u64_andNot_nat y x hy hx
  have handn2 := Lib.hid handn
  have HH := Lib.hid (fun (p : Int) W => has_any (butN y x) p hyx W)
  generalize butN x (bitN 0) = ho at *
  generalize butN xy (bitN 0) = go' at *
  generalize HS.nw 0 x = s0 at *
  generalize HS.nw 0 xy = t0 at *
  go_wp2
  go_loopw [9, 10] (fun i _ wr => ∃ (k k2 : Nat) (s t : HS) (O1 O2 : Nat → Prop), k ≤ n ∧ k2 ≤ 2 * k ∧ i = .int .i64 k ∧ HE2 w b1 b2 s t k2 O1 O2 wr ∧ Hid (MRel ho go' s t)) (fun i _ _ => n - (intOf i).toNat)
  case atStart => exact ⟨0, 0, s0, t0, _, _, Nat.zero_le _, Nat.le_refl _, rfl, E, HM0⟩
  case round => as_aux_lemma =>
    clear E HM0
    obtain ⟨k, k2, s, t, O1, O2, hk, hk2, rfl, E, HM⟩ := hrel
    by_cases hlt : k < n
    · have hkl : k < l.length := by rw [hln.out]; exact hlt
      have hkI : (k : Int) < n := by omega
      obtain ⟨bl, off, rfl, hbl⟩ := Rd.addr hr (by omega)
      have hyo := hl _ (List.getElem_mem hkl)
      have HR := Lib.hid (fun W (h : Below w.heap.size w W) => RdA.at (show RdA W (some ⟨bl, off, none⟩) n c l from Rd.below hr h (Nat.le_refl _)) k hkl)
      generalize l[k] = q at *
      obtain ⟨r0, r1, r2, r3⟩ := HR.out _ E.bel
      have hAl : Below wr.heap.size wr (wr.alloc (.cells #[.int .i64 q.kind, .int .i64 q.p, .int .u32 q.seq, .int .u64 q.st] 32)) := (Below.refl _ _).alloc (Nat.le_refl _) _
      have hno : ¬ O1 wr.heap.size := fun hc => by have := E.e1.hi _ hc; omega
      replace E := E.below hAl
      have hAct := BlkAt.new wr 32 #[.int .i64 q.kind, .int .i64 q.p, .int .u32 q.seq, .int .u64 q.st]
      obtain ⟨d0, d1, d2, d3⟩ := c4 hAct
      clear hAl
      by_cases hskip : q.kind < 3 ∧ hasB (butN y x) q.p = true
      · obtain ⟨k3, hb⟩ := hskip
        have HH1 := Lib.hid (fun W => HH.out q.p W)
        rw [hb] at HH1
        go_wp2_with fail
        refine (HH1.out _).mono ?_
        rintro e w' ⟨rfl, rfl⟩
        go_wp2
        go_roundw
        case rel => exact ⟨k + 1, k2, s, t, O1, O2, by omega, by omega, by go_num, E, HM⟩
        case measure => simp [intOf]; omega
      · have hns : q.kind < 3 → hasB (butN y x) q.p = false := fun h3 => by
          cases e : hasB (butN y x) q.p with
          | false => rfl
          | true => exact absurd ⟨h3, e⟩ hskip
        have HM1 := Lib.hid (HM.out.act q (fun h3 => hhas.out q.p (hns h3)))
        have hac1 := Lib.hid (fun W (E : HEn w b1 s k2 O1 W) => E.act (by omega) q hyo)
        have hac2 := Lib.hid (fun W (E : HEn w b2 t (k2 + 1) O2 W) => E.act (by omega) q hyo)
        have hle := HM1.out.all hsub.out
        have hcl := HM1.out.clock
        generalize s.act q = s' at *
        generalize t.act q = t' at *
        obtain ⟨a1, HA1⟩ : ∃ v, Hid (s'.all = v) := ⟨_, Lib.hid rfl⟩
        obtain ⟨a2, HA2⟩ : ∃ v, Hid (t'.all = v) := ⟨_, Lib.hid rfl⟩
        obtain ⟨f1, HS1⟩ : ∃ v, Hid (s'.safe = v) := ⟨_, Lib.hid rfl⟩
        obtain ⟨f2, HS2⟩ : ∃ v, Hid (t'.safe = v) := ⟨_, Lib.hid rfl⟩
        obtain ⟨c1, HC1⟩ : ∃ v, Hid (s'.clock = v) := ⟨_, Lib.hid rfl⟩
        have HC2 := Lib.hid (hcl.symm.trans HC1.out)
        rw [HA1.out, HA2.out, HS1.out, HS2.out] at hle
        have g1 : decide (a1 < a2) = false := decide_eq_false (by omega)
        have g2 : decide (f1 < f2) = false := decide_eq_false (by omega)
        clear hle hcl hskip
        by_cases k3 : q.kind < 3
        · have HH1 := Lib.hid (fun W => HH.out q.p W)
          rw [hns k3] at HH1
          go_wp2_with fail
          refine (HH1.out _).mono ?_
          rintro e w' ⟨rfl, rfl⟩
          (go_wp2_with fail; refine (hac1.out _ E.e1).mono ?_; rintro e w5 ⟨rfl, hnx⟩; have hkp := hnx; obtain ⟨_, _, hkp, _⟩ := hkp; replace hAct := hkp.blk hAct hno; obtain ⟨O1', E'⟩ := E.next1 hnx; clear hnx E hkp d0 d1 d2 d3; obtain ⟨d0, d1, d2, d3⟩ := c4 hAct; go_wp2_with fail; refine (hac2.out _ E'.e2).mono ?_; rintro e w6 ⟨rfl, hnx⟩; obtain ⟨O2', E⟩ := E'.next2 hnx; clear hnx E' d0 d1 d2 d3 hAct; (go_wp2_with fail; refine (E.e2.allv HA2 hT).mono ?_; rintro e wx ⟨rfl, _, hbx⟩; replace E := E.below hbx; clear hbx); (go_wp2_with fail; refine (E.e1.allv HA1 hT).mono ?_; rintro e wx ⟨rfl, _, hbx⟩; replace E := E.below hbx; clear hbx); (go_wp2_with fail; refine (E.e2.safev HS2 hT).mono ?_; rintro e wx ⟨rfl, _, hbx⟩; replace E := E.below hbx; clear hbx); (go_wp2_with fail; refine (E.e1.safev HS1 hT).mono ?_; rintro e wx ⟨rfl, _, hbx⟩; replace E := E.below hbx; clear hbx); (go_wp2_with fail; refine (E.e2.clockv HC2).mono ?_; rintro e w' ⟨rfl, rfl⟩); (go_wp2_with fail; refine (E.e1.clockv HC1).mono ?_; rintro e w' ⟨rfl, rfl⟩); go_wp2; go_roundw; (case rel => exact ⟨k + 1, k2 + 1 + 1, s', t', _, _, by omega, by omega, by go_num, E, HM1⟩); (case measure => (simp [intOf]; omega)))
        · (go_wp2_with fail; refine (hac1.out _ E.e1).mono ?_; rintro e w5 ⟨rfl, hnx⟩; have hkp := hnx; obtain ⟨_, _, hkp, _⟩ := hkp; replace hAct := hkp.blk hAct hno; obtain ⟨O1', E'⟩ := E.next1 hnx; clear hnx E hkp d0 d1 d2 d3; obtain ⟨d0, d1, d2, d3⟩ := c4 hAct; go_wp2_with fail; refine (hac2.out _ E'.e2).mono ?_; rintro e w6 ⟨rfl, hnx⟩; obtain ⟨O2', E⟩ := E'.next2 hnx; clear hnx E' d0 d1 d2 d3 hAct; (go_wp2_with fail; refine (E.e2.allv HA2 hT).mono ?_; rintro e wx ⟨rfl, _, hbx⟩; replace E := E.below hbx; clear hbx); (go_wp2_with fail; refine (E.e1.allv HA1 hT).mono ?_; rintro e wx ⟨rfl, _, hbx⟩; replace E := E.below hbx; clear hbx); (go_wp2_with fail; refine (E.e2.safev HS2 hT).mono ?_; rintro e wx ⟨rfl, _, hbx⟩; replace E := E.below hbx; clear hbx); (go_wp2_with fail; refine (E.e1.safev HS1 hT).mono ?_; rintro e wx ⟨rfl, _, hbx⟩; replace E := E.below hbx; clear hbx); (go_wp2_with fail; refine (E.e2.clockv HC2).mono ?_; rintro e w' ⟨rfl, rfl⟩); (go_wp2_with fail; refine (E.e1.clockv HC1).mono ?_; rintro e w' ⟨rfl, rfl⟩); go_wp2; go_roundw; (case rel => exact ⟨k + 1, k2 + 1 + 1, s', t', _, _, by omega, by omega, by go_num, E, HM1⟩); (case measure => (simp [intOf]; omega)))
    · obtain rfl : k = n := by omega
      go_wp2
      go_ret
      exact ⟨rfl, E.bel⟩
theorem hmore_law (x y : Int) (a : Option Addr) (n c : Nat) (w : World) (hT : Tab w) (hx : (Lit.int .u64 x).wf = true) (hy : (Lit.int .u64 y).wf = true) (hl : ∃ l, RSl RAc 4 w a n c l) :
    Calls Tryd.prog 5 #[.int .u64 x, .int .u64 y, .slice a n c] w fun e w' => e = .returned (.bool true) ∧ Below w.heap.size w w' := by
  obtain ⟨l, hl⟩ := hl
  obtain ⟨h1, h2⟩ := hl.acs
  obtain ⟨x, rfl, gx⟩ := u64n hx
  obtain ⟨y, rfl, gy⟩ := u64n hy
  exact hmore_any x y gx gy a n c _ h2 w h1 hT
end Go.Proofs.YtmhckkcppmfjpaaDoor
