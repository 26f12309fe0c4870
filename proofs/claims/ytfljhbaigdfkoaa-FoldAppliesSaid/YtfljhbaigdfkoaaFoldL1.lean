/- the walk of FoldApplies -/
import Derived.Test.YtfljhbaigdfkoaaFoldO
import Derived.StillTailTactics
import Derived.Deep.QuietTactic
import Derived.BigQuiet
import Derived.Deep.RegionHeld3
namespace Go.Proofs.Ytfljhbaigdfkoaa
open Go.RowKit

theorem rd_take {w : World} {a : Option Addr} {n c m : Nat} {l : List (Int × ByteArray)} (h : Rd w 2 a n c (stC l)) (hm : m ≤ n) : Rd w 2 a m c (stC (l.take m)) := by
  have hl := h.stLen
  obtain ⟨⟨h1, h2, h3, h4⟩, h5⟩ := h
  refine ⟨⟨by rw [stC_len, List.length_take]; omega, by omega, h3, fun h => ⟨by have := (h4 h).1; omega, (h4 h).2⟩⟩, ?_⟩
  rcases h5 with h5 | ⟨b, off, rfl, hb, hc⟩
  · exact .inl (by omega)
  · refine .inr ⟨b, off, rfl, hb, fun j u hu => hc j u ?_⟩
    have e : stC l = stC (l.take m) ++ stC (l.drop m) := by rw [stC, stC, stC, ← List.flatMap_append, List.take_append_drop]
    rw [e, List.getElem?_append_left (List.getElem?_eq_some_iff.1 hu).1]; exact hu
theorem rd_drop {w : World} {b off n c m : Nat} {l : List (Int × ByteArray)} (h : Rd w 2 (some ⟨b, off, none⟩) n c (stC l)) (hm : m ≤ n) : Rd w 2 (some ⟨b, off + m * 2, none⟩) (n - m) (c - m) (stC (l.drop m)) := by
  have hl := h.stLen
  have hp := h.part m (n - m) (by omega)
  have e : stC l = stC (l.take m) ++ stC (l.drop m) := by rw [stC, stC, stC, ← List.flatMap_append, List.take_append_drop]
  have e2 : ((stC l).drop (m * 2)).take ((n - m) * 2) = stC (l.drop m) := by
    rw [e, List.drop_append_of_le_length (by rw [stC_len, List.length_take]; omega), List.drop_of_length_le (by rw [stC_len, List.length_take]; omega), List.nil_append, List.take_of_length_le (by rw [stC_len, List.length_drop]; omega)]
  rw [e2] at hp
  exact hp
theorem allB_cut (s : ByteArray) (l : List (Int × ByteArray)) (m : Nat) : allB (allB s (l.take m)) (l.drop m) = allB s l := by
  rw [allB, allB, allB, ← List.foldl_append, List.take_append_drop]
theorem allB_cut' (s : ByteArray) (l : List (Int × ByteArray)) : allB (allB s (l.take l.length)) [] = allB s l := by
  have := allB_cut s l l.length
  rwa [List.drop_length] at this
set_option maxHeartbeats 1600000 in
set_option maxRecDepth 100000 in
theorem applies_main (s : ByteArray) (b off n c : Nat) (l : List (Int × ByteArray)) (cut : Int) (w : World) (hs : s.size ≤ 20000) (hbw : b < w.heap.size) (hr : Rd w 2 (some ⟨b, off, none⟩) n c (stC l))
    (hn : n ≤ 300) (hf : fewB l = true) (hx : ∀ x ∈ l, -9223372036854775808 ≤ x.1 ∧ x.1 ≤ 9223372036854775807) (hd : ∀ x ∈ l, x.2.size ≤ 100000) (hc1 : -9223372036854775808 ≤ cut) (hc2 : cut ≤ 9223372036854775807) :
    Calls Try.prog 3 #[.string s, .slice (some ⟨b, off, none⟩) n c, .int .i64 cut] w fun e w' => e = .returned (.bool true) ∧ Below w.heap.size w w' := by
  have hl := Lib.hid hr.stLen
  have HX := Lib.hid hx
  have HD := Lib.hid hd
  have hfew := Lib.hid hf
  clear hx hd hf
  go_enter Try.func3, Try.ntmps3
  go_wp2_with fail
  refine (awake_any _).mono ?_
  rintro e w1 ⟨rfl, hb1⟩
  go_wp2_with fail
  refine (few_any _ n c l _ (by omega) (hr.below hb1 (Nat.le_refl _)) (fun x hx => by have := HD.out x hx; omega)).mono ?_
  rintro e w2 ⟨rfl, rfl⟩
  rw [hfew.out]
  go_wp2
  go_loopw [7, 8, 9] (fun t i _ wr => ∃ k : Nat, k ≤ n ∧ i = .int .i64 k ∧ t = .string (allB s (l.take k)) ∧ Below w.heap.size w wr) (fun _ i _ _ => n - (intOf i).toNat)
  case atStart => exact ⟨0, Nat.zero_le _, rfl, rfl, hb1⟩
  case round =>
    obtain ⟨k, hk, rfl, rfl, hbr⟩ := hrel
    have hsize := hbr.size
    by_cases hlt : k < n
    · have hkl : k < l.length := by rw [hl.out]; exact hlt
      obtain ⟨hc1, hc2⟩ := (hr.below hbr (Nat.le_refl _)).step2 k hkl
      have hsz := allB_size s (l.take k) (by omega)
      have hdx := HD.out _ (List.getElem_mem hkl)
      obtain ⟨hx1, hx2⟩ := HX.out _ (List.getElem_mem hkl)
      generalize hcur : allB s (l.take k) = cur at *
      have Hcur := Lib.hid hcur; clear hcur
      go_wp2_with fail
      go_still_tail 11, (by kernel_rfl)
      change wpList _ _ _ _ _ wr.drew
      have hbd := hbr.drew
      have hcd1 : wr.drew.cell? { block := b, off := off + k * 2 } = some (Value.int IntKind.i64 l[k].fst) := hc1
      have hcd2 : wr.drew.cell? { block := b, off := off + k * 2 + 1 } = some (Value.string l[k].snd) := hc2
      clear hbr hsize hc1 hc2
      generalize wr.drew = wd at *
      go_wp2_with fail
      refine (ref_any cur _ _ _ hsz (by omega) hx1 hx2).mono ?_
      rintro e w3 ⟨rfl, hb⟩
      have hb3 : Below w.heap.size w w3 := hbd.trans (hb.mono hbd.size)
      clear hb
      have hsize := hb3.size
      obtain ⟨hc1, hc2⟩ := (hr.below hb3 (Nat.le_refl _)).step2 k hkl
      clear hcd1 hcd2 hbd
      go_wp2_with fail
      refine (apply_any cur _ _ _ hsz (by omega)).mono ?_
      rintro e w4 ⟨rfl, hb⟩
      have hb4 : Below w.heap.size w w4 := hb3.trans (hb.mono hsize)
      clear hb hb3 hc1 hc2 hsize
      go_wp2
      go_roundw
      case rel => exact ⟨k + 1, by omega, by go_num, by rw [List.take_succ_eq_append_getElem hkl, allB_snoc, Hcur.out], hb4⟩
      case measure => simp [intOf]; omega
    · obtain rfl : k = n := by omega
      rw [List.take_of_length_le (by rw [hl.out]; exact Nat.le_refl _)]
      go_wp2_with fail
      refine (all_any s _ _ _ l _ (by omega) (by omega) (hr.below hbr (Nat.le_refl _)) (fun x hx => by have := HD.out x hx; omega)).mono ?_
      rintro e w3 ⟨rfl, hb⟩
      have hb3 : Below w.heap.size w w3 := hbr.trans (hb.mono hbr.size)
      clear hb
      by_cases hc0 : cut < 0
      · have hd0 : decide (cut < 0) = true := by simpa using hc0
        go_wp2
        go_quiet (fail)
        go_wp2
        go_ret
        exact ⟨rfl, belN hb3 _⟩
      have hd0 : decide (cut < 0) = false := by simpa using hc0
      by_cases hcn : (k : Int) < cut
      · have hd1 : decide ((k : Int) < cut) = true := by simpa using hcn
        go_wp2
        go_quiet (fail)
        go_wp2
        go_ret
        exact ⟨rfl, belN hb3 _⟩
      have hd1 : decide ((k : Int) < cut) = false := by simpa using hcn
      obtain ⟨m, rfl⟩ : ∃ m : Nat, cut = (m : Int) := ⟨cut.toNat, by omega⟩
      have hd2 : decide (k < m) = false := by simp; omega
      clear hd0 hd1
      have hkc : (k : Int) ≤ c := by have := hr.le_cap; omega
      have hmk : (m : Int) ≤ k := by omega
      have hmc : (m : Int) ≤ c := by omega
      have hm0 : (0 : Int) ≤ m := by omega
      have hkl : k = l.length := hl.out.symm
      have HA1 := fun W (hb : Below w.heap.size w W) => all_any s _ m c (l.take m) W (by omega) (by omega) (rd_take (hr.below hb (Nat.le_refl _)) (by omega)) (fun x hx => by have := HD.out x (List.mem_of_mem_take hx); omega)
      by_cases hmc' : (m : Int) < c
      · have HA2 := fun W (hb : Below w.heap.size w W) => all_any (allB s (l.take m)) _ (k - m) (c - m) (l.drop m) W (by have := allB_size s (l.take m) (by omega); omega) (by omega) (rd_drop (hr.below hb (Nat.le_refl _)) (by omega)) (fun x hx => by have := HD.out x (List.mem_of_mem_drop hx); omega)
        clear hkl
        go_wp2
        go_region_held3 (fun w' => Below w.heap.size w w') (first | assumption | exact Below.drew (by assumption) | (refine belS ?_ (by assumption); assumption))
          (first | (go_at_call 10; (with_reducible refine (HA1 _ (by assumption)).mono ?_); rintro e w4 ⟨rfl, hb⟩) | (go_at_call 10; (with_reducible refine (HA2 _ (by assumption)).mono ?_); rintro e w4 ⟨rfl, hb⟩))
        go_wp2
        go_ret
        refine ⟨ret_bool ?_, by assumption⟩
        rw [allB_cut, beq_self_eq_true, Bool.or_true]
      · have hcm : c = m := by omega
        subst hcm
        obtain rfl : k = c := by omega
        have HA2 := fun (a : Option Addr) (cc : Nat) W (hb : Below w.heap.size w W) => all_nil (allB s (l.take k)) a cc W
        clear hkl
        go_wp2
        go_region_held3 (fun w' => Below w.heap.size w w') (first | assumption | exact Below.drew (by assumption) | (refine belS ?_ (by assumption); assumption))
          (first | (go_at_call 10; (with_reducible refine (HA1 _ (by assumption)).mono ?_); rintro e w4 ⟨rfl, hb⟩) | (go_at_call 10; (with_reducible refine (HA2 _ _ _ (by assumption)).mono ?_); rintro e w4 ⟨rfl, hb⟩))
        go_wp2
        go_ret
        refine ⟨ret_bool ?_, by assumption⟩
        rw [← hl.out, allB_cut', beq_self_eq_true, Bool.or_true]

set_option maxHeartbeats 1600000 in
set_option maxRecDepth 100000 in
theorem applies_nil (s : ByteArray) (a : Option Addr) (c : Nat) (cut : Int) (w : World) (hs : s.size ≤ 20000) (hc1 : -9223372036854775808 ≤ cut) (hc2 : cut ≤ 9223372036854775807) :
    Calls Try.prog 3 #[.string s, .slice a 0 c, .int .i64 cut] w fun e w' => e = .returned (.bool true) ∧ Below w.heap.size w w' := by
  have hA : Hid (∀ t (a : Option Addr) (c : Nat) (w : World), Calls Try.prog 10 #[.string t, .slice a 0 c] w fun e w' => e = .returned (.string t) ∧ Below w.heap.size w w') := Lib.hid fun t a c w => all_nil t a c w
  go_enter Try.func3, Try.ntmps3
  go_wp2_with fail
  refine (awake_any _).mono ?_
  rintro e w1 ⟨rfl, hb1⟩
  go_wp2_with fail
  refine (few_nil a c _).mono ?_
  rintro e w2 ⟨rfl, rfl⟩
  rw [show fewB [] = true from rfl]
  go_wp2
  refine wp_loop_rounds 1 ?_
  rw [rounds_succ]
  go_wp2_with fail
  refine (hA.out s a c _).mono ?_
  rintro e w3 ⟨rfl, hb⟩
  have hb3 := belS hb1 hb
  clear hb hb1
  by_cases hc0 : cut < 0
  · have hd0 : decide (cut < 0) = true := by simpa using hc0
    go_wp2
    go_quiet (fail)
    go_wp2
    go_ret
    exact ⟨rfl, belN hb3 _⟩
  have hd0 : decide (cut < 0) = false := by simpa using hc0
  by_cases hcn : 0 < cut
  · have hd1 : decide (0 < cut) = true := by simpa using hcn
    go_wp2
    go_quiet (fail)
    go_wp2
    go_ret
    exact ⟨rfl, belN hb3 _⟩
  obtain rfl : cut = 0 := by omega
  clear hd0
  by_cases h0 : c = 0
  · subst h0
    go_wp2
    go_region_held3 (fun w' => Below w.heap.size w w') (first | assumption | exact Below.drew (by assumption) | (refine belS ?_ (by assumption); assumption))
      (first | (go_at_call 10; (with_reducible refine (hA.out _ _ _ _).mono ?_); rintro e w4 ⟨rfl, hb⟩))
    go_wp2
    go_ret
    exact ⟨ret_bool (by simp), by assumption⟩
  · have h0' : (0 : Int) < c := by omega
    go_wp2
    go_region_held3 (fun w' => Below w.heap.size w w') (first | assumption | exact Below.drew (by assumption) | (refine belS ?_ (by assumption); assumption))
      (first | (go_at_call 10; (with_reducible refine (hA.out _ _ _ _).mono ?_); rintro e w4 ⟨rfl, hb⟩))
    go_wp2
    go_ret
    exact ⟨ret_bool (by simp), by assumption⟩

set_option maxHeartbeats 800000 in
theorem applies_long (s : ByteArray) (a : Option Addr) (n c : Nat) (cut : Int) (w : World) (hs : 20000 < s.size) :
    Calls Try.prog 3 #[.string s, .slice a n c, .int .i64 cut] w fun e w' => e = .returned (.bool true) ∧ Below w.heap.size w w' := by
  go_enter Try.func3, Try.ntmps3
  go_wp2_with fail
  refine (awake_any _).mono ?_
  rintro e w1 ⟨rfl, hb1⟩
  go_wp2
  go_ret
  exact ⟨rfl, hb1⟩

set_option maxHeartbeats 800000 in
theorem applies_many (s : ByteArray) (a : Option Addr) (n c : Nat) (l : List (Int × ByteArray)) (cut : Int) (w : World) (hs : s.size ≤ 20000) (hn : n ≤ 9223372036854775807) (hr : Rd w 2 a n c (stC l)) (hz : ∀ x ∈ l, x.2.size ≤ 9223372036854775807) (hf : fewB l = false) :
    Calls Try.prog 3 #[.string s, .slice a n c, .int .i64 cut] w fun e w' => e = .returned (.bool true) ∧ Below w.heap.size w w' := by
  have hfew := Lib.hid hf
  have HZ := Lib.hid hz
  clear hf hz
  go_enter Try.func3, Try.ntmps3
  go_wp2_with fail
  refine (awake_any _).mono ?_
  rintro e w1 ⟨rfl, hb1⟩
  go_wp2_with fail
  refine (few_any _ n c l _ hn (hr.below hb1 (Nat.le_refl _)) HZ.out).mono ?_
  rintro e w2 ⟨rfl, rfl⟩
  rw [hfew.out]
  go_wp2
  go_ret
  exact ⟨rfl, hb1⟩

/-- The Go text of FoldApplies returns true, and writes nothing that was there. -/
theorem applies_any (s : ByteArray) (a : Option Addr) (n c : Nat) (l : List (Int × ByteArray)) (cut : Int) (w : World) (hn : n ≤ 9223372036854775807) (hr : Rd w 2 a n c (stC l))
    (hx : ∀ x ∈ l, (-9223372036854775808 ≤ x.1 ∧ x.1 ≤ 9223372036854775807) ∧ x.2.size ≤ 9223372036854775807) (hc1 : -9223372036854775808 ≤ cut) (hc2 : cut ≤ 9223372036854775807) :
    Calls Try.prog 3 #[.string s, .slice a n c, .int .i64 cut] w fun e w' => e = .returned (.bool true) ∧ Below w.heap.size w w' := by
  by_cases hs : 20000 < s.size
  · exact applies_long s a n c cut w hs
  cases hf : fewB l with
  | false => exact applies_many s a n c l cut w (by omega) hn hr (fun x h => (hx x h).2) hf
  | true =>
    obtain ⟨h1, h2⟩ := fewGo_mem l 0 0 hf
    have hl := hr.stLen
    rcases hr.2 with rfl | ⟨b, off, rfl, hlt, _⟩
    · exact applies_nil s a c cut w (by omega) hc1 hc2
    · exact applies_main s b off n c l cut w (by omega) hlt hr (by omega) hf (fun x h => (hx x h).1) (fun x h => by have := h1 x h; omega) hc1 hc2

theorem applies_law (s : ByteArray) (a : Option Addr) (n c : Nat) (cut : Int) (w : World) (_ : s.size ≤ maxLen) (h : ∃ l, RSl RSt 2 w a n c l) (hw : (Lit.int .i64 cut).wf = true) :
    Calls Try.prog 3 #[.string s, .slice a n c, .int .i64 cut] w fun e w' => e = .returned (.bool true) ∧ Below w.heap.size w w' := by
  obtain ⟨l, hl⟩ := h
  have hb := wf_i64_bounds hw
  exact applies_any s a n c l cut w (by have := (rst_cells hl).le_max; unfold maxLen at this; omega) (rst_cells hl) (rst_facts hl) hb.1 hb.2
end Go.Proofs.Ytfljhbaigdfkoaa
