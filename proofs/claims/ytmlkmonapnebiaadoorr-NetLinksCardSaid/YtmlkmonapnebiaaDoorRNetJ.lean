/- the net: plain laws of links; the walk of NetLinks -/
import Derived.Test.YtmlkmonapnebiaaDoorRNetI
import Derived.Laws.EntriesVeiled
namespace Go.Proofs.YtmlkmonapnebiaaDoorR
open Go.RowKit Go.Sort

def cutL (s : NS) (l : List Nat) : NS := l.foldl NS.cut s
theorem cutL_take (s : NS) (l : List Nat) (k : Nat) (h : k < l.length) : cutL s (l.take (k + 1)) = (cutL s (l.take k)).cut l[k] := by
  rw [List.take_succ_eq_append_getElem h, cutL, List.foldl_append]; rfl
theorem cutL_n (l : List Nat) : ∀ s, (cutL s l).n = s.n := by
  induction l with
  | nil => intro s; rfl
  | cons c l ih => intro s; exact ih (s.cut c)
def alk (p q : Int) (l : List Nat) : Bool := l.all fun c => hasB c p == hasB c q
theorem alk_take (p q : Int) (l : List Nat) (k : Nat) (h : k < l.length) : alk p q (l.take (k + 1)) = (alk p q (l.take k) && (hasB l[k] p == hasB l[k] q)) := by
  rw [List.take_succ_eq_append_getElem h, alk, List.all_append]; simp [alk]
theorem hasB_bit (c i : Nat) (hi : i < 64) : hasB c (i : Int) = c.testBit i := by
  rw [hasB_eq, decide_eq_true (by omega), Bool.true_and, Int.toNat_natCast]
theorem links_bit {s : NS} (hn : s.n ≤ 64) (l : List Nat) (hl : ∀ c ∈ l, c < 18446744073709551616) (i j : Nat) (hi : i < s.n) (hj : j < 64) (f : Nat → Bool) (hf : (s.links i).testBit j = f j) :
    ((cutL s l).links i).testBit j = (f j && alk i j l) := by
  induction l generalizing s f with
  | nil => show (s.links i).testBit j = _; rw [hf]; simp [alk]
  | cons c l ih =>
    have hc := hl c (List.mem_cons_self ..)
    have h1 : ((s.cut c).links i).testBit j = (fun j => f j && (hasB c i == hasB c j)) j := by
      show ((if i < s.n then cutG c i (s.links i) else s.links i) : Nat).testBit j = _
      rw [if_pos hi]
      unfold cutG
      dsimp only
      rw [hasB_bit c j hj, ← hf]
      split
      · rename_i h
        rw [Nat.testBit_and, h]
        simp
      · rename_i h
        rw [but_bit hc j hj]
        have : hasB c (i : Int) = false := by simpa using h
        rw [this]
        cases c.testBit j <;> simp
    have := ih (s := s.cut c) hn (fun x hx => hl x (List.mem_cons_of_mem _ hx)) hi (fun j => f j && (hasB c i == hasB c j)) h1
    refine this.trans ?_
    show ((f j && (hasB c i == hasB c j)) && alk i j l) = (f j && alk i j (c :: l))
    unfold alk
    rw [List.all_cons, Bool.and_assoc]
/-- Is p one of the processes? -/
def atB (n p : Int) : Bool := decide (0 ≤ p ∧ p < nN n)
theorem inn_cut (n p : Int) (l : List Nat) : (cutL (NS.nw n) l).inn p = atB n p := by
  unfold NS.inn atB
  rw [cutL_n]; rfl
theorem linked_cut (n p q : Int) (l : List Nat) (hl : ∀ c ∈ l, c < 18446744073709551616) : (cutL (NS.nw n) l).linked p q = (atB n p && atB n q && alk p q l) := by
  unfold NS.linked
  rw [inn_cut]
  cases hp : atB n p with
  | false => simp
  | true =>
    rw [Bool.true_and, Bool.true_and]
    have hn := nN_le n
    have hp' := of_decide_eq_true hp
    rw [hasB_eq]
    by_cases hq : 0 ≤ q ∧ q < 64
    · rw [decide_eq_true hq, Bool.true_and]
      have hb := links_bit (s := NS.nw n) (NS.nw_ok n).n l hl p.toNat q.toNat (by show p.toNat < nN n; omega) (by omega) (fun j => decide (j < nN n)) (by
        show ((if p.toNat < nN n then allN (nN n) else 0) : Nat).testBit q.toNat = _
        rw [if_pos (by omega), allN_bit _ _ (by omega)]
        rw [decide_eq_decide]; omega)
      rw [hb]
      have e1 : ((p.toNat : Nat) : Int) = p := by omega
      have e2 : ((q.toNat : Nat) : Int) = q := by omega
      rw [e1, e2]
      congr 1
      unfold atB
      rw [decide_eq_decide]; omega
    · rw [decide_eq_false hq, Bool.false_and]
      have : atB n q = false := by unfold atB; exact decide_eq_false (by omega)
      rw [this]; rfl
theorem turn_heal (s : NS) (g : Nat → Nat → Nat) : (s.turn g).n = s.n := rfl
theorem linked_heal (n p q : Int) (l : List Nat) : (cutL (NS.nw n) l).heal.linked p q = (atB n p && atB n q) := by
  unfold NS.linked
  have e : (cutL (NS.nw n) l).heal.inn p = atB n p := inn_cut n p l
  rw [e]
  cases hp : atB n p with
  | false => simp
  | true =>
    have hn := nN_le n
    have hp' := of_decide_eq_true hp
    rw [Bool.true_and, Bool.true_and]
    have e2 : (cutL (NS.nw n) l).n = nN n := cutL_n l _
    have e3 : (cutL (NS.nw n) l).heal.links p.toNat = allN (nN n) := by
      show (if p.toNat < (cutL (NS.nw n) l).n then allN ((cutL (NS.nw n) l).n : Int) else _) = _
      rw [e2, if_pos (by omega)]
    rw [e3, hasB_eq]
    unfold atB
    by_cases hq : 0 ≤ q ∧ q < 64
    · rw [decide_eq_true hq, Bool.true_and, allN_bit _ _ (by omega), decide_eq_decide]; omega
    · rw [decide_eq_false hq, Bool.false_and]
      exact (decide_eq_false (by omega)).symm
theorem alk_symm (p q : Int) (l : List Nat) : alk p q l = alk q p l := by
  unfold alk
  congr 1
  funext c
  cases hasB c p <;> cases hasB c q <;> rfl
theorem alk_refl (p : Int) (l : List Nat) : alk p p l = true := by unfold alk; simp
theorem alk_trans {p q r : Int} {l : List Nat} (h1 : alk p q l = true) (h2 : alk q r l = true) : alk p r l = true := by
  unfold alk at *
  rw [List.all_eq_true] at *
  intro c hc
  have a := h1 c hc
  have b := h2 c hc
  rw [beq_iff_eq] at *
  rw [a, b]
set_option maxHeartbeats 800000 in
set_option maxRecDepth 100000 in
theorem atc_any (n p : Int) (nb : Nat) (w : World) (h : BlkAt w nb 3 #[.int .i64 n]) :
    Calls Tryd.prog 9 #[.int .i64 p, .pointer (some ⟨nb, 0, none⟩)] w fun e w' => e = .returned (.bool (atB n p)) ∧ w = w' := by
  have c0 : w.cell? ⟨nb, 0, none⟩ = some (.int .i64 n) := h.cell rfl
  have HE := Lib.hid (show atB n p = decide (0 ≤ p ∧ p < nN n) from rfl)
  have hN := Lib.hid (show nN n = (max 0 (min n 64)).toNat from rfl)
  by_cases h0 : 0 ≤ p
  · by_cases h1 : p < n
    · go_enter Tryd.func9, Tryd.ntmps9
      go_wp2
      go_ret
      exact ⟨ret_bool (by rw [HE.out, hN.out]; first | (rw [decide_eq_decide]; omega) | (rw [Bool.eq_iff_iff]; simp; omega)), rfl⟩
    · go_enter Tryd.func9, Tryd.ntmps9
      go_wp2
      go_ret
      exact ⟨ret_bool (by rw [HE.out, hN.out]; exact (decide_eq_false (by omega)).symm), rfl⟩
  · go_enter Tryd.func9, Tryd.ntmps9
    go_wp2
    go_ret
    exact ⟨ret_bool (by rw [HE.out]; exact (decide_eq_false (by omega)).symm), rfl⟩
set_option maxHeartbeats 6400000 in
set_option maxRecDepth 100000 in
theorem nlinks_any (n p q r : Int) (a : Option Addr) (cn c : Nat) (l : List Nat) (hl : ∀ x ∈ l, x < 18446744073709551616) (w : World) (hr : Rd w 1 a cn c ((l.map fun x : Nat => (x : Int)).map (Value.int .u64))) (hT : Tab w) :
    Calls Tryd.prog 3 #[.int .i64 n, .slice a cn c, .int .i64 p, .int .i64 q, .int .i64 r] w fun e w' => e = .returned (.bool true) ∧ Below w.heap.size w w' := by
  have hln := Lib.hid (show l.length = cn from by simpa using hr.length_eq)
  have hmx := Rd.le_max hr
  unfold maxLen at hmx
  have hb1 : Below w.heap.size w (w.alloc (.cells #[.int .i64 n] 3)) := (Below.refl _ _).alloc (Nat.le_refl _) _
  have hN0 := BlkAt.new w 3 #[.int .i64 n]
  have hT1 := hT.below hb1 hT.1
  have hr1 := Rd.below hr hb1 (Nat.le_refl _)
  have hbox : w.heap.size < (w.alloc (.cells #[.int .i64 n] 3)).heap.size := by simp
  go_enter Tryd.func3, Tryd.ntmps3
  go_wp2_with fail
  generalize w.alloc _ = w1 at *
  refine (awake_any w1 hT1).mono ?_
  rintro e w2 ⟨rfl, hb2⟩
  by_cases hgt : 200 < cn
  · have hgtI : (200 : Int) < cn := by omega
    go_wp2
    go_ret
    exact ⟨rfl, belS hb1 hb2⟩
  have hgtI : ¬ (200 : Int) < cn := by omega
  have hBox : ∀ {W : World}, Below w1.heap.size w1 W → BlkAt W w.heap.size 3 #[.int .i64 n] := fun {W} h => hN0.below h hbox
  have n2 : w2.cell? ⟨w.heap.size, 0, none⟩ = some (.int .i64 n) := (hBox hb2).cell rfl
  go_wp2_with fail
  refine (NEn.new n hT1 hb2).mono ?_
  rintro e w3 ⟨b, rfl, E0, _, _⟩
  have H0 := Lib.hid (show cutL (NS.nw n) (l.take 0) = NS.nw n from rfl)
  clear n2
  go_wp2
  go_loopw [13, 14] (fun al i wr => ∃ (k : Nat) (O : Nat → Prop), k ≤ cn ∧ i = .int .i64 k ∧ al = .bool (alk p q (l.take k)) ∧ NEn w1 b (cutL (NS.nw n) (l.take k)) O wr) (fun _ i _ => cn - (intOf i).toNat)
  case atStart => exact ⟨0, _, Nat.zero_le _, rfl, rfl, E0⟩
  case round =>
    clear E0 H0
    obtain ⟨k, O, hk, rfl, rfl, E⟩ := hrel
    by_cases hlt : k < cn
    · have hkI : (k : Int) < cn := by omega
      as_aux_lemma =>
        have hkl : k < l.length := by rw [hln.out]; exact hlt
        obtain ⟨bl, off, rfl, hbl⟩ := Rd.addr hr1 (by omega)
        have hcx := hl _ (List.getElem_mem hkl)
        have HR := Lib.hid (fun W (h : Below w1.heap.size w1 W) => (Rd.below hr1 h (Nat.le_refl _)).int1 k (by simpa using hkl))
        rw [List.getElem_map] at HR
        have HS := Lib.hid (cutL_take (NS.nw n) l k hkl)
        have HK := Lib.hid (alk_take p q l k hkl)
        generalize l[k] = x at *
        have r0 := HR.out _ E.bel
        have HC := Lib.hid (E.cut x hcx hT1)
        rw [← HS.out] at HC
        have HH := Lib.hid (fun z W => has_any x z hcx W)
        generalize alk p q (l.take k) = al at *
        clear hbl
        go_wp2_with fail
        refine HC.out.mono ?_
        rintro e w5 ⟨rfl, O5, E5, _, _⟩
        clear r0 E
        have r0 := HR.out _ E5.bel
        have hE5 := fun m => E5.below (belN (Below.refl w5.heap.size w5) m)
        cases al with
        | true =>
          go_wp2
          go_quiet ((go_at_call 11; exact qS (HH.out _ _)))
          go_wp2
          go_roundw
          case rel => exact ⟨k + 1, O5, by omega, by go_num, by rw [HK.out, Bool.true_and], hE5 _⟩
          case measure => simp [intOf]; omega
        | false =>
          go_wp2
          go_quiet ((go_at_call 11; exact qS (HH.out _ _)))
          go_wp2
          go_roundw
          case rel => exact ⟨k + 1, O5, by omega, by go_num, by rw [HK.out, Bool.false_and], hE5 _⟩
          case measure => simp [intOf]; omega
    · obtain rfl : k = cn := by omega
      have e1 : l.take k = l := List.take_of_length_le (Nat.le_of_eq hln.out)
      rw [e1] at E ⊢
      have Lk := fun p q => linked_cut n p q l hl
      have Hh := fun p q => linked_heal n p q l
      have hpq := Lk p q
      have hqp := Lk q p
      rw [Bool.and_comm (atB n q), alk_symm q p, ← hpq] at hqp
      have hqr := Lk q r
      have hpr := Lk p r
      have hpp := Lk p p
      rw [Bool.and_self, alk_refl, Bool.and_true] at hpp
      have hhl := Hh p q
      have htr := fun h1 h2 => alk_trans (p := p) (q := q) (r := r) (l := l) h1 h2
      have HAp := Lib.hid (fun W h => atc_any n p w.heap.size W h)
      have HAq := Lib.hid (fun W h => atc_any n q w.heap.size W h)
      generalize cutL (NS.nw n) l = S at *
      generalize alk p q l = al at *
      generalize alk q r l = kqr at *
      generalize alk p r l = kpr at *
      generalize atB n p = ap at *
      generalize atB n q = aq at *
      generalize atB n r = ar at *
      clear Lk Hh e1
      rw [hpq] at hqp
      have HPP := Lib.hid hpp
      have HHL := Lib.hid hhl
      cases al with
      | false =>
        have HPQ := Lib.hid (hpq.trans (Bool.and_false _))
        have HQP := Lib.hid (hqp.trans (Bool.and_false _))
        clear hpq hqp hqr hpr hpp hhl htr
        cases ap with
        | false =>
          rw [Bool.false_and] at HHL
          ((go_wp2_with fail; refine (E.linked HPQ).mono ?_; rintro e w' ⟨rfl, rfl⟩); (go_wp2_with fail; refine (E.linked HQP).mono ?_; rintro e w' ⟨rfl, rfl⟩); (go_wp2_with fail; refine (E.linked HPQ).mono ?_; rintro e w' ⟨rfl, rfl⟩); (go_wp2_with fail; refine (E.linked HPP).mono ?_; rintro e w' ⟨rfl, rfl⟩); (go_wp2_with fail; refine (HAp.out _ (hBox E.bel)).mono ?_; rintro e w' ⟨rfl, rfl⟩))
          (go_wp2_with fail; refine (E.linked HPQ).mono ?_; rintro e w' ⟨rfl, rfl⟩)
          (go_wp2_with fail; refine (E.heal hT1).mono ?_; rintro e w7 ⟨rfl, O7, E7, _, _⟩; clear E; have E := E7; clear E7)
          (go_wp2_with fail; refine (E.linked HHL).mono ?_; rintro e w' ⟨rfl, rfl⟩)
          (go_wp2_with fail; refine (HAp.out _ (hBox E.bel)).mono ?_; rintro e w' ⟨rfl, rfl⟩)
          (go_wp2; go_ret; exact ⟨ret_bool (by simp), belS hb1 E.bel⟩)
        | true =>
          rw [Bool.true_and] at HHL
          ((go_wp2_with fail; refine (E.linked HPQ).mono ?_; rintro e w' ⟨rfl, rfl⟩); (go_wp2_with fail; refine (E.linked HQP).mono ?_; rintro e w' ⟨rfl, rfl⟩); (go_wp2_with fail; refine (E.linked HPQ).mono ?_; rintro e w' ⟨rfl, rfl⟩); (go_wp2_with fail; refine (E.linked HPP).mono ?_; rintro e w' ⟨rfl, rfl⟩); (go_wp2_with fail; refine (HAp.out _ (hBox E.bel)).mono ?_; rintro e w' ⟨rfl, rfl⟩))
          (go_wp2_with fail; refine (E.linked HPQ).mono ?_; rintro e w' ⟨rfl, rfl⟩)
          (go_wp2_with fail; refine (E.heal hT1).mono ?_; rintro e w7 ⟨rfl, O7, E7, _, _⟩; clear E; have E := E7; clear E7)
          (go_wp2_with fail; refine (E.linked HHL).mono ?_; rintro e w' ⟨rfl, rfl⟩)
          (go_wp2_with fail; refine (HAp.out _ (hBox E.bel)).mono ?_; rintro e w' ⟨rfl, rfl⟩)
          (go_wp2_with fail; refine (HAq.out _ (hBox E.bel)).mono ?_; rintro e w' ⟨rfl, rfl⟩)
          (go_wp2; go_ret; exact ⟨ret_bool (by simp), belS hb1 E.bel⟩)
      | true =>
        rw [Bool.and_true] at hpq hqp
        cases ap with
        | false =>
          rw [Bool.false_and] at hpq hqp HHL
          have HPQ := Lib.hid hpq
          have HQP := Lib.hid hqp
          clear hpq hqp hqr hpr hpp hhl htr
          ((go_wp2_with fail; refine (E.linked HPQ).mono ?_; rintro e w' ⟨rfl, rfl⟩); (go_wp2_with fail; refine (E.linked HQP).mono ?_; rintro e w' ⟨rfl, rfl⟩); (go_wp2_with fail; refine (E.linked HPQ).mono ?_; rintro e w' ⟨rfl, rfl⟩); (go_wp2_with fail; refine (E.linked HPP).mono ?_; rintro e w' ⟨rfl, rfl⟩); (go_wp2_with fail; refine (HAp.out _ (hBox E.bel)).mono ?_; rintro e w' ⟨rfl, rfl⟩))
          (go_wp2_with fail; refine (E.linked HPQ).mono ?_; rintro e w' ⟨rfl, rfl⟩)
          (go_wp2_with fail; refine (HAp.out _ (hBox E.bel)).mono ?_; rintro e w' ⟨rfl, rfl⟩)
          (go_wp2_with fail; refine (E.heal hT1).mono ?_; rintro e w7 ⟨rfl, O7, E7, _, _⟩; clear E; have E := E7; clear E7)
          (go_wp2_with fail; refine (E.linked HHL).mono ?_; rintro e w' ⟨rfl, rfl⟩)
          (go_wp2_with fail; refine (HAp.out _ (hBox E.bel)).mono ?_; rintro e w' ⟨rfl, rfl⟩)
          (go_wp2; go_ret; exact ⟨ret_bool (by simp), belS hb1 E.bel⟩)
        | true =>
          rw [Bool.true_and] at hpq hqp HHL
          cases aq with
          | false =>
            have HPQ := Lib.hid hpq
            have HQP := Lib.hid hqp
            clear hpq hqp hqr hpr hpp hhl htr
            ((go_wp2_with fail; refine (E.linked HPQ).mono ?_; rintro e w' ⟨rfl, rfl⟩); (go_wp2_with fail; refine (E.linked HQP).mono ?_; rintro e w' ⟨rfl, rfl⟩); (go_wp2_with fail; refine (E.linked HPQ).mono ?_; rintro e w' ⟨rfl, rfl⟩); (go_wp2_with fail; refine (E.linked HPP).mono ?_; rintro e w' ⟨rfl, rfl⟩); (go_wp2_with fail; refine (HAp.out _ (hBox E.bel)).mono ?_; rintro e w' ⟨rfl, rfl⟩))
            (go_wp2_with fail; refine (E.linked HPQ).mono ?_; rintro e w' ⟨rfl, rfl⟩)
            (go_wp2_with fail; refine (HAp.out _ (hBox E.bel)).mono ?_; rintro e w' ⟨rfl, rfl⟩)
            (go_wp2_with fail; refine (HAq.out _ (hBox E.bel)).mono ?_; rintro e w' ⟨rfl, rfl⟩)
            (go_wp2_with fail; refine (E.heal hT1).mono ?_; rintro e w7 ⟨rfl, O7, E7, _, _⟩; clear E; have E := E7; clear E7)
            (go_wp2_with fail; refine (E.linked HHL).mono ?_; rintro e w' ⟨rfl, rfl⟩)
            (go_wp2_with fail; refine (HAp.out _ (hBox E.bel)).mono ?_; rintro e w' ⟨rfl, rfl⟩)
            (go_wp2_with fail; refine (HAq.out _ (hBox E.bel)).mono ?_; rintro e w' ⟨rfl, rfl⟩)
            (go_wp2; go_ret; exact ⟨ret_bool (by simp), belS hb1 E.bel⟩)
          | true =>
            rw [Bool.true_and] at hqr hpr
            have HPQ := Lib.hid hpq
            have HQP := Lib.hid hqp
            cases kqr with
            | false =>
              have HQR := Lib.hid (hqr.trans (Bool.and_false _))
              clear hpq hqp hqr hpr hpp hhl htr
              (go_wp2_with fail; refine (E.linked HPQ).mono ?_; rintro e w' ⟨rfl, rfl⟩)
              (go_wp2_with fail; refine (E.linked HQP).mono ?_; rintro e w' ⟨rfl, rfl⟩)
              (go_wp2_with fail; refine (E.linked HPQ).mono ?_; rintro e w' ⟨rfl, rfl⟩)
              (go_wp2_with fail; refine (E.linked HQR).mono ?_; rintro e w' ⟨rfl, rfl⟩)
              (go_wp2_with fail; refine (E.linked HPP).mono ?_; rintro e w' ⟨rfl, rfl⟩)
              (go_wp2_with fail; refine (HAp.out _ (hBox E.bel)).mono ?_; rintro e w' ⟨rfl, rfl⟩)
              ((go_wp2_with fail; refine (E.linked HPQ).mono ?_; rintro e w' ⟨rfl, rfl⟩); (go_wp2_with fail; refine (HAp.out _ (hBox E.bel)).mono ?_; rintro e w' ⟨rfl, rfl⟩); (go_wp2_with fail; refine (HAq.out _ (hBox E.bel)).mono ?_; rintro e w' ⟨rfl, rfl⟩); (go_wp2_with fail; refine (E.heal hT1).mono ?_; rintro e w7 ⟨rfl, O7, E7, _, _⟩; clear E; have E := E7; clear E7); (go_wp2_with fail; refine (E.linked HHL).mono ?_; rintro e w' ⟨rfl, rfl⟩); (go_wp2_with fail; refine (HAp.out _ (hBox E.bel)).mono ?_; rintro e w' ⟨rfl, rfl⟩); (go_wp2_with fail; refine (HAq.out _ (hBox E.bel)).mono ?_; rintro e w' ⟨rfl, rfl⟩); (go_wp2; go_ret; exact ⟨ret_bool (by simp), belS hb1 E.bel⟩))
            | true =>
              rw [Bool.and_true] at hqr
              obtain rfl : kpr = true := htr rfl rfl
              rw [Bool.and_true] at hpr
              have HQR := Lib.hid hqr
              have HPR := Lib.hid hpr
              clear hpq hqp hqr hpr hpp hhl htr
              cases ar with
              | false =>
                (go_wp2_with fail; refine (E.linked HPQ).mono ?_; rintro e w' ⟨rfl, rfl⟩)
                (go_wp2_with fail; refine (E.linked HQP).mono ?_; rintro e w' ⟨rfl, rfl⟩)
                (go_wp2_with fail; refine (E.linked HPQ).mono ?_; rintro e w' ⟨rfl, rfl⟩)
                (go_wp2_with fail; refine (E.linked HQR).mono ?_; rintro e w' ⟨rfl, rfl⟩)
                (go_wp2_with fail; refine (E.linked HPP).mono ?_; rintro e w' ⟨rfl, rfl⟩)
                (go_wp2_with fail; refine (HAp.out _ (hBox E.bel)).mono ?_; rintro e w' ⟨rfl, rfl⟩)
                ((go_wp2_with fail; refine (E.linked HPQ).mono ?_; rintro e w' ⟨rfl, rfl⟩); (go_wp2_with fail; refine (HAp.out _ (hBox E.bel)).mono ?_; rintro e w' ⟨rfl, rfl⟩); (go_wp2_with fail; refine (HAq.out _ (hBox E.bel)).mono ?_; rintro e w' ⟨rfl, rfl⟩); (go_wp2_with fail; refine (E.heal hT1).mono ?_; rintro e w7 ⟨rfl, O7, E7, _, _⟩; clear E; have E := E7; clear E7); (go_wp2_with fail; refine (E.linked HHL).mono ?_; rintro e w' ⟨rfl, rfl⟩); (go_wp2_with fail; refine (HAp.out _ (hBox E.bel)).mono ?_; rintro e w' ⟨rfl, rfl⟩); (go_wp2_with fail; refine (HAq.out _ (hBox E.bel)).mono ?_; rintro e w' ⟨rfl, rfl⟩); (go_wp2; go_ret; exact ⟨ret_bool (by simp), belS hb1 E.bel⟩))
              | true =>
                (go_wp2_with fail; refine (E.linked HPQ).mono ?_; rintro e w' ⟨rfl, rfl⟩)
                (go_wp2_with fail; refine (E.linked HQP).mono ?_; rintro e w' ⟨rfl, rfl⟩)
                (go_wp2_with fail; refine (E.linked HPQ).mono ?_; rintro e w' ⟨rfl, rfl⟩)
                (go_wp2_with fail; refine (E.linked HQR).mono ?_; rintro e w' ⟨rfl, rfl⟩)
                (go_wp2_with fail; refine (E.linked HPR).mono ?_; rintro e w' ⟨rfl, rfl⟩)
                (go_wp2_with fail; refine (E.linked HPP).mono ?_; rintro e w' ⟨rfl, rfl⟩)
                (go_wp2_with fail; refine (HAp.out _ (hBox E.bel)).mono ?_; rintro e w' ⟨rfl, rfl⟩)
                ((go_wp2_with fail; refine (E.linked HPQ).mono ?_; rintro e w' ⟨rfl, rfl⟩); (go_wp2_with fail; refine (HAp.out _ (hBox E.bel)).mono ?_; rintro e w' ⟨rfl, rfl⟩); (go_wp2_with fail; refine (HAq.out _ (hBox E.bel)).mono ?_; rintro e w' ⟨rfl, rfl⟩); (go_wp2_with fail; refine (E.heal hT1).mono ?_; rintro e w7 ⟨rfl, O7, E7, _, _⟩; clear E; have E := E7; clear E7); (go_wp2_with fail; refine (E.linked HHL).mono ?_; rintro e w' ⟨rfl, rfl⟩); (go_wp2_with fail; refine (HAp.out _ (hBox E.bel)).mono ?_; rintro e w' ⟨rfl, rfl⟩); (go_wp2_with fail; refine (HAq.out _ (hBox E.bel)).mono ?_; rintro e w' ⟨rfl, rfl⟩); (go_wp2; go_ret; exact ⟨ret_bool (by simp), belS hb1 E.bel⟩))
theorem nlinks_law (n : Int) (a : Option Addr) (cn c : Nat) (p q r : Int) (w : World) (hT : Tab w) (hn : (Lit.int .i64 n).wf = true) (hl : ∃ l, RSl (RInt .u64) 1 w a cn c l) (hp : (Lit.int .i64 p).wf = true) (hq : (Lit.int .i64 q).wf = true) (hr : (Lit.int .i64 r).wf = true) :
    Calls Tryd.prog 3 #[.int .i64 n, .slice a cn c, .int .i64 p, .int .i64 q, .int .i64 r] w fun e w' => e = .returned (.bool true) ∧ Below w.heap.size w w' := by
  obtain ⟨l, hl⟩ := hl
  have hw := hl.intsWf
  have e : l = (l.map fun x => x.toNat).map fun x : Nat => (x : Int) := by
    rw [List.map_map]
    have : ∀ x ∈ l, ((fun x : Nat => (x : Int)) ∘ fun x : Int => x.toNat) x = x := fun x hx => by
      have := wf_u64_bounds (hw x hx)
      show ((x.toNat : Nat) : Int) = x
      omega
    rw [List.map_congr_left this]
    simp
  have h1 := hl.ints
  rw [e] at h1
  refine nlinks_any n p q r a cn c _ (fun x hx => ?_) w h1 hT
  obtain ⟨y, hy, rfl⟩ := List.mem_map.1 hx
  have := wf_u64_bounds (hw y hy)
  omega
end Go.Proofs.YtmlkmonapnebiaaDoorR
