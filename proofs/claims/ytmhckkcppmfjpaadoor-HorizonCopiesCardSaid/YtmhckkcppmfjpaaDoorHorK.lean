/- the horizon: plain laws; the walk of HorizonRises -/
import Derived.Test.YtmhckkcppmfjpaaDoorHorJ
namespace Go.Proofs.YtmhckkcppmfjpaaDoor
open Go.RowKit Go.Sort

theorem minL_mono {f g : Nat → Nat} {a c : Nat} {l : List Nat} (h : a ≤ c) (hf : ∀ p ∈ l, f p ≤ g p) : minL f a l ≤ minL g c l := by
  induction l generalizing a c with
  | nil => exact h
  | cons p l ih =>
    have h1 := hf p (List.mem_cons_self ..)
    exact ih (a := min a (f p)) (c := min c (g p)) (by omega) (fun q hq => hf q (List.mem_cons_of_mem _ hq))
theorem hfold_ge (c : Nat) (l : List Pm) : ∀ h, h ≤ hfold c h l := by
  induction l with
  | nil => intro h; exact Nat.le_refl _
  | cons x l ih =>
    intro h
    refine Nat.le_trans ?_ (ih _)
    show h ≤ (if pmQ c x = true then max h x.st else h)
    split
    · exact Nat.le_max_left _ _
    · exact Nat.le_refl _
structure HS.Le (s t : HS) : Prop where
  clock : s.clock ≤ t.clock
  heard : ∀ i, (s.l i).heard ≤ (t.l i).heard
  reached : ∀ i, (s.l i).reached ≤ (t.l i).reached
  oth : t.oth = s.oth
theorem HS.Le.refl (s : HS) : s.Le s := ⟨Nat.le_refl _, fun _ => Nat.le_refl _, fun _ => Nat.le_refl _, rfl⟩
theorem HS.Le.set {s t : HS} (h : s.Le t) (p : Nat) {x : Mk} (h1 : (s.l p).heard ≤ x.heard) (h2 : (s.l p).reached ≤ x.reached) : s.Le (t.set p x) := by
  refine ⟨h.clock, fun i => ?_, fun i => ?_, h.oth⟩
  · show _ ≤ (if i = p then x else t.l i).heard
    split
    · rename_i e; rw [e]; exact h1
    · exact h.heard i
  · show _ ≤ (if i = p then x else t.l i).reached
    split
    · rename_i e; rw [e]; exact h2
    · exact h.reached i
theorem HS.le_see (s : HS) (st : Nat) : s.Le (s.see st) := ⟨Nat.le_max_left _ _, fun _ => Nat.le_refl _, fun _ => Nat.le_refl _, rfl⟩
theorem stampN_ge (c : Nat) : c ≤ stampN c := by unfold stampN; split <;> omega
theorem HS.le_act (s : HS) (a : AcH) : s.Le (s.act a) := by
  unfold HS.act
  split
  · unfold HS.came; split
    · exact (s.le_see _).set _ (Nat.le_trans (Nat.le_max_left _ _) (hfold_ge _ _ _)) (Nat.le_refl _)
    · exact .refl s
  split
  · unfold HS.prom; split
    · exact (s.le_see _).set _ (hfold_ge _ _ _) (Nat.le_refl _)
    · exact .refl s
  split
  · unfold HS.reach; split
    · exact (HS.Le.refl s).set _ (Nat.le_refl _) (Nat.le_max_left _ _)
    · exact .refl s
  split
  · exact ⟨stampN_ge _, fun _ => Nat.le_refl _, fun _ => Nat.le_refl _, rfl⟩
  split
  · exact s.le_see _
  · exact .refl s
theorem HS.Le.all {s t : HS} (h : s.Le t) : s.all ≤ t.all := by
  unfold HS.all
  rw [h.oth]
  exact minL_mono h.clock (fun p _ => h.heard p)
theorem HS.Le.safe {s t : HS} (h : s.Le t) : s.safe ≤ t.safe := by
  unfold HS.safe
  rw [h.oth]
  exact minL_mono h.all (fun p _ => h.reached p)
theorem HS.safe_le (s : HS) : s.safe ≤ s.all := minL_le _ _ _
theorem HS.all_le (s : HS) : s.all ≤ s.clock := minL_le _ _ _
theorem HS.alone {s : HS} (h : s.oth = 0) : s.all = s.clock ∧ s.safe = s.clock := by
  have h1 : s.all = s.clock := by unfold HS.all; rw [h, memN_zero]; rfl
  refine ⟨h1, ?_⟩
  unfold HS.safe
  rw [h, memN_zero, h1]; rfl

def RdA (w : World) (a : Option Addr) (n c : Nat) (l : List AcH) : Prop := Rd w 4 a n c (l.flatMap acC)
theorem acC_len (x : AcH) : (acC x).length = 4 := rfl
theorem RdA.len {w : World} {a : Option Addr} {n c : Nat} {l : List AcH} (h : RdA w a n c l) : l.length = n := by
  have := Rd.length_eq h
  rw [flatMap_len acC_len] at this
  omega
theorem RdA.at {w : World} {b off n c : Nat} {l : List AcH} (h : RdA w (some ⟨b, off, none⟩) n c l) (k : Nat) (hk : k < l.length) : w.cell? ⟨b, off + k * 4, none⟩ = some (.int .i64 l[k].kind) ∧ w.cell? ⟨b, off + k * 4 + 1, none⟩ = some (.int .i64 l[k].p) ∧ w.cell? ⟨b, off + k * 4 + 2, none⟩ = some (.int .u32 l[k].seq) ∧ w.cell? ⟨b, off + k * 4 + 3, none⟩ = some (.int .u64 l[k].st) := by
  have e : ∀ j u, j < 4 → (acC l[k])[j]? = some u → w.cell? ⟨b, off + (k * 4 + j), none⟩ = some u := fun j u hj hu =>
    Rd.at h (by rw [flatMap_get acC_len _ _ _ hj, List.getElem?_eq_getElem hk]; exact hu)
  exact ⟨e 0 _ (by decide) rfl, e 1 _ (by decide) rfl, e 2 _ (by decide) rfl, e 3 _ (by decide) rfl⟩
section
variable {w0 : World} {b k : Nat} {s t : HS} {O O' : Nat → Prop} {W W' : World}
theorem HEn.allv {v : Nat} (hv : Hid (s.all = v)) (h : HEn w0 b s k O W) (hT : Tab w0) :
    Calls Tryd.prog 9 #[.pointer (some ⟨b, 0, none⟩)] W fun e w' => e = .returned (.int .u64 v) ∧ HEn w0 b s k O w' ∧ Below W.heap.size W w' := by
  rw [← hv.out]
  exact (h.all hT).mono fun e w' ⟨h1, h2⟩ => ⟨h1, h.below h2, h2⟩
theorem HEn.safev {v : Nat} (hv : Hid (s.safe = v)) (h : HEn w0 b s k O W) (hT : Tab w0) :
    Calls Tryd.prog 10 #[.pointer (some ⟨b, 0, none⟩)] W fun e w' => e = .returned (.int .u64 v) ∧ HEn w0 b s k O w' ∧ Below W.heap.size W w' := by
  rw [← hv.out]
  exact (h.safe hT).mono fun e w' ⟨h1, h2⟩ => ⟨h1, h.below h2, h2⟩
theorem HEn.clockv {v : Nat} (hv : Hid (s.clock = v)) (h : HEn w0 b s k O W) :
    Calls Tryd.prog 11 #[.pointer (some ⟨b, 0, none⟩)] W fun e w' => e = .returned (.int .u64 v) ∧ W = w' := by
  rw [← hv.out]
  exact h.clock
end
set_option maxHeartbeats 6400000 in
set_option maxRecDepth 100000 in
theorem rises_any (me : Int) (x : Nat) (hx : x < 18446744073709551616) (a : Option Addr) (n c : Nat) (l : List AcH) (hl : ∀ y ∈ l, y.Ok) (w : World) (hr : RdA w a n c l) (hT : Tab w) :
    Calls Tryd.prog 3 #[.int .i64 me, .int .u64 x, .slice a n c] w fun e w' => e = .returned (.bool true) ∧ Below w.heap.size w w' := by
  have hln := Lib.hid hr.len
  have hmx := Rd.le_max hr
  unfold maxLen at hmx
  have hAw := Lib.hid (awake_any w hT)
  go_enter Tryd.func3, Tryd.ntmps3
  go_wp2_with fail
  refine hAw.out.mono ?_
  rintro e w1 ⟨rfl, hb1⟩
  clear hAw
  by_cases hgt : 300 < n
  · have hgtI : (300 : Int) < n := by omega
    go_wp2
    go_ret
    exact ⟨rfl, hb1⟩
  have hgtI : ¬ (300 : Int) < n := by omega
  have HN := Lib.hid (HEn.new (w0 := w) (W := w1) me x hx hb1)
  go_wp2_with fail
  refine HN.out.mono ?_
  rintro e w2 ⟨b, rfl, E, _, _⟩
  clear HN hb1
  have hoth := but_lt x (bitN me) hx
  have H0 := Lib.hid (show (HS.nw me x).oth = butN x (bitN me) from rfl)
  have HLess := Lib.hid (fun (W : World) => less_any x 1 1 (some ⟨W.heap.size, 0, none⟩) [me] (W.alloc (.cells #[.int .i64 me] 3)) hx (by decide) (Rd.one rfl))
  rw [show withN 0 [me] = bitN me from by simp [withN]] at HLess
  generalize butN x (bitN me) = ot at *
  generalize HS.nw me x = s0 at *
  go_wp2
  go_loopw [8, 9, 10, 11, 12] (fun i _ _ _ _ wr => ∃ (k : Nat) (s : HS) (O : Nat → Prop), k ≤ n ∧ i = .int .i64 k ∧ HEn w b s k O wr ∧ Hid (s.oth = ot)) (fun i _ _ _ _ _ => n - (intOf i).toNat)
  case atStart => exact ⟨0, s0, _, Nat.zero_le _, rfl, E, H0⟩
  case round => as_aux_lemma =>
    clear E H0
    obtain ⟨k, s, O, hk, rfl, E, HO⟩ := hrel
    by_cases hlt : k < n
    · have hkl : k < l.length := by rw [hln.out]; exact hlt
      have hkI : (k : Int) < n := by omega
      obtain ⟨bl, off, rfl, hbl⟩ := Rd.addr hr (by omega)
      have hlo := Lib.hid E.lo
      have hyo := hl _ (List.getElem_mem hkl)
      have HR := Lib.hid (fun W (h : Below w.heap.size w W) => RdA.at (show RdA W (some ⟨bl, off, none⟩) n c l from Rd.below hr h (Nat.le_refl _)) k hkl)
      have hle := s.le_act l[k]
      generalize l[k] = y at *
      obtain ⟨a0, HA0⟩ : ∃ v, Hid (s.all = v) := ⟨_, Lib.hid rfl⟩
      obtain ⟨s0', HS0⟩ : ∃ v, Hid (s.safe = v) := ⟨_, Lib.hid rfl⟩
      obtain ⟨c0, HC0⟩ : ∃ v, Hid (s.clock = v) := ⟨_, Lib.hid rfl⟩
      obtain ⟨a1, HA1⟩ : ∃ v, Hid ((s.act y).all = v) := ⟨_, Lib.hid rfl⟩
      obtain ⟨s1, HS1⟩ : ∃ v, Hid ((s.act y).safe = v) := ⟨_, Lib.hid rfl⟩
      obtain ⟨c1, HC1⟩ : ∃ v, Hid ((s.act y).clock = v) := ⟨_, Lib.hid rfl⟩
      obtain ⟨nn, HNN⟩ : ∃ v, Hid (s.ans y = v) := ⟨_, Lib.hid rfl⟩
      have g1 : decide (a1 < a0) = false := decide_eq_false (by have := hle.all; rw [HA0.out, HA1.out] at this; omega)
      have g2 : decide (s1 < s0') = false := decide_eq_false (by have := hle.safe; rw [HS0.out, HS1.out] at this; omega)
      have g3 : decide (c1 < c0) = false := decide_eq_false (by have := hle.clock; rw [HC0.out, HC1.out] at this; omega)
      have g4 : decide (a1 < s1) = false := decide_eq_false (by have := (s.act y).safe_le; rw [HS1.out, HA1.out] at this; omega)
      have g5 : decide (c1 < a1) = false := decide_eq_false (by have := (s.act y).all_le; rw [HC1.out, HA1.out] at this; omega)
      have HO1 : Hid ((s.act y).oth = ot) := (HS.act_oth s y).trans HO.out
      have hac := Lib.hid (fun W (E : HEn w b s k O W) => E.act (by omega) y hyo)
      rw [HNN.out] at hac
      have hst3 := Lib.hid (show y.kind = 3 → nn = stampN c0 from fun e => by rw [← HNN.out, ← HC0.out, HS.ans, if_pos e]; rfl)
      clear hle
      (go_wp2_with fail; refine (E.allv HA0 hT).mono ?_; rintro e wx ⟨rfl, Ex, _⟩; replace E := Ex; clear Ex)
      (go_wp2_with fail; refine (E.safev HS0 hT).mono ?_; rintro e wx ⟨rfl, Ex, _⟩; replace E := Ex; clear Ex)
      (go_wp2_with fail; refine (E.clockv HC0).mono ?_; rintro e w' ⟨rfl, rfl⟩)
      obtain ⟨r0, r1, r2, r3⟩ := HR.out _ E.bel
      go_wp2_with fail
      refine (hac.out _ E).mono ?_
      rintro e w5 ⟨rfl, O5, E5, _, _⟩
      clear E r0 r1 r2 r3
      (go_wp2_with fail; refine (E5.allv HA1 hT).mono ?_; rintro e wx ⟨rfl, Ex, _⟩; replace E5 := Ex; clear Ex)
      (go_wp2_with fail; refine (E5.safev HS1 hT).mono ?_; rintro e wx ⟨rfl, Ex, _⟩; replace E5 := Ex; clear Ex)
      (go_wp2_with fail; refine (E5.clockv HC1).mono ?_; rintro e w' ⟨rfl, rfl⟩)
      (go_wp2_with fail; refine (E5.safev HS1 hT).mono ?_; rintro e wx ⟨rfl, Ex, _⟩; replace E5 := Ex; clear Ex)
      (go_wp2_with fail; refine (E5.allv HA1 hT).mono ?_; rintro e wx ⟨rfl, Ex, _⟩; replace E5 := Ex; clear Ex)
      (go_wp2_with fail; refine (E5.allv HA1 hT).mono ?_; rintro e wx ⟨rfl, Ex, _⟩; replace E5 := Ex; clear Ex)
      (go_wp2_with fail; refine (E5.clockv HC1).mono ?_; rintro e w' ⟨rfl, rfl⟩)
      clear g1 g2 g3 g4
      obtain ⟨r0, _, _, _⟩ := HR.out _ E5.bel
      by_cases k3 : y.kind = 3
      · have hn := hst3.out k3
        rw [k3] at r0
        by_cases hc : c0 = 18446744073709551615
        · have hn2 : nn = c0 := hn.trans (if_pos hc)
          have hcb : ((c0 : Int) != 18446744073709551615) = false := by rw [hc]; rfl
          clear hn hc
          obtain rfl := hn2
          (go_wp2_with fail; replace E5 := E5.below ((Below.refl _ _).alloc (Nat.le_refl _) (.cells #[.int .i64 me] 3)); refine (HLess.out _).mono ?_; rintro e w' ⟨rfl, rfl⟩; clear r0 g5; generalize World.alloc _ _ = w9 at *; by_cases hz : ot = 0; (focus (have hal := HS.alone (HO1.out.trans hz); have hzI : ((ot : Int) == 0) = true := (by rw [hz]; rfl); rw [HA1.out, HC1.out, HS1.out] at hal; obtain ⟨ha1, hs1⟩ := hal; clear hz; subst ha1 hs1; (go_wp2_with fail; refine (E5.allv HA1 hT).mono ?_; rintro e wx ⟨rfl, Ex, _⟩; replace E5 := Ex; clear Ex); (go_wp2_with fail; refine (E5.clockv HC1).mono ?_; rintro e w' ⟨rfl, rfl⟩); (go_wp2_with fail; refine (E5.safev HS1 hT).mono ?_; rintro e wx ⟨rfl, Ex, _⟩; replace E5 := Ex; clear Ex); (go_wp2_with fail; refine (E5.clockv HC1).mono ?_; rintro e w' ⟨rfl, rfl⟩); (go_wp2; go_roundw; (case rel => exact ⟨k + 1, s.act y, O5, by omega, by go_num, E5, HO1⟩); (case measure => (simp [intOf]; omega))))); (focus (have hzI : ((ot : Int) == 0) = false := (by rw [beq_eq_false_iff_ne]; omega); clear hz; (go_wp2; go_roundw; (case rel => exact ⟨k + 1, s.act y, O5, by omega, by go_num, E5, HO1⟩); (case measure => (simp [intOf]; omega))))))
        · have hn2 : nn = c0 + 1 := hn.trans (if_neg hc)
          have hcb : decide (nn ≤ c0) = false := decide_eq_false (by omega)
          clear hn hc hn2
          (go_wp2_with fail; replace E5 := E5.below ((Below.refl _ _).alloc (Nat.le_refl _) (.cells #[.int .i64 me] 3)); refine (HLess.out _).mono ?_; rintro e w' ⟨rfl, rfl⟩; clear r0 g5; generalize World.alloc _ _ = w9 at *; by_cases hz : ot = 0; (focus (have hal := HS.alone (HO1.out.trans hz); have hzI : ((ot : Int) == 0) = true := (by rw [hz]; rfl); rw [HA1.out, HC1.out, HS1.out] at hal; obtain ⟨ha1, hs1⟩ := hal; clear hz; subst ha1 hs1; (go_wp2_with fail; refine (E5.allv HA1 hT).mono ?_; rintro e wx ⟨rfl, Ex, _⟩; replace E5 := Ex; clear Ex); (go_wp2_with fail; refine (E5.clockv HC1).mono ?_; rintro e w' ⟨rfl, rfl⟩); (go_wp2_with fail; refine (E5.safev HS1 hT).mono ?_; rintro e wx ⟨rfl, Ex, _⟩; replace E5 := Ex; clear Ex); (go_wp2_with fail; refine (E5.clockv HC1).mono ?_; rintro e w' ⟨rfl, rfl⟩); (go_wp2; go_roundw; (case rel => exact ⟨k + 1, s.act y, O5, by omega, by go_num, E5, HO1⟩); (case measure => (simp [intOf]; omega))))); (focus (have hzI : ((ot : Int) == 0) = false := (by rw [beq_eq_false_iff_ne]; omega); clear hz; (go_wp2; go_roundw; (case rel => exact ⟨k + 1, s.act y, O5, by omega, by go_num, E5, HO1⟩); (case measure => (simp [intOf]; omega))))))
      · have k3b : (y.kind == 3) = false := by rw [beq_eq_false_iff_ne]; exact k3
        clear k3
        (go_wp2_with fail; replace E5 := E5.below ((Below.refl _ _).alloc (Nat.le_refl _) (.cells #[.int .i64 me] 3)); refine (HLess.out _).mono ?_; rintro e w' ⟨rfl, rfl⟩; clear r0 g5; generalize World.alloc _ _ = w9 at *; by_cases hz : ot = 0; (focus (have hal := HS.alone (HO1.out.trans hz); have hzI : ((ot : Int) == 0) = true := (by rw [hz]; rfl); rw [HA1.out, HC1.out, HS1.out] at hal; obtain ⟨ha1, hs1⟩ := hal; clear hz; subst ha1 hs1; (go_wp2_with fail; refine (E5.allv HA1 hT).mono ?_; rintro e wx ⟨rfl, Ex, _⟩; replace E5 := Ex; clear Ex); (go_wp2_with fail; refine (E5.clockv HC1).mono ?_; rintro e w' ⟨rfl, rfl⟩); (go_wp2_with fail; refine (E5.safev HS1 hT).mono ?_; rintro e wx ⟨rfl, Ex, _⟩; replace E5 := Ex; clear Ex); (go_wp2_with fail; refine (E5.clockv HC1).mono ?_; rintro e w' ⟨rfl, rfl⟩); (go_wp2; go_roundw; (case rel => exact ⟨k + 1, s.act y, O5, by omega, by go_num, E5, HO1⟩); (case measure => (simp [intOf]; omega))))); (focus (have hzI : ((ot : Int) == 0) = false := (by rw [beq_eq_false_iff_ne]; omega); clear hz; (go_wp2; go_roundw; (case rel => exact ⟨k + 1, s.act y, O5, by omega, by go_num, E5, HO1⟩); (case measure => (simp [intOf]; omega))))))
    · obtain rfl : k = n := by omega
      go_wp2
      go_ret
      exact ⟨rfl, E.bel⟩
end Go.Proofs.YtmhckkcppmfjpaaDoor
