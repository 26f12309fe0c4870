/- walks of those, Stay, Joins -/
import Derived.Test.YtcgfpolklfhppaaDoorNameA
import Derived.Test.YtcgfpolklfhppaaDoorSetN
namespace Go.Proofs.YtcgfpolklfhppaaDoor
open Go.RowKit Go.Sort

/-- Of the first k members those whose claims are so. -/
def thoseK (m : Nat) (l : List It) (q : It → Bool) : Nat → Nat
  | 0 => 0
  | k + 1 => if (l[k]?.map q).getD false = true then thoseK m l q k ||| bitN ((memN m).getD k 0) else thoseK m l q k
def thoseN (m : Nat) (l : List It) (q : It → Bool) : Nat := thoseK m l q (memN m).length
theorem thoseK_lt (m : Nat) (l : List It) (q : It → Bool) (k : Nat) : thoseK m l q k < 18446744073709551616 := by
  induction k with
  | zero => exact Nat.zero_lt_succ _
  | succ k ih =>
    rw [thoseK]
    split
    · exact or_lt ih (bitN_lt _)
    · exact ih
theorem memN_at {x k : Nat} (h : k < (memN x).length) : (memN x)[k] < 64 := memN_lt x _ (List.getElem_mem h)
theorem memI_at {x k : Nat} (h : k < (memI x).length) : (memI x)[k] = (((memN x)[k]'(by rw [memI, List.length_map] at h; exact h) : Nat) : Int) := by simp [memI]
set_option maxHeartbeats 1600000 in
set_option maxRecDepth 100000 in
theorem those_h (m : Nat) (hm : m < 18446744073709551616) (a : Option Addr) (n c : Nat) (l : List It) (hw : ∀ x ∈ l, x.Wf) (cb : Nat) (q : It → Bool) (w : World) (hr : RdI w a n c l) (hT : Tab w)
    (HQ : ∀ x ∈ l, ∀ W, Below w.heap.size w W → Calls Tryd.prog 27 #[.agg x.cs.toArray, .pointer (some ⟨cb, 0, none⟩)] W fun e w' => e = .returned (.bool (q x)) ∧ Below W.heap.size W w') :
    Calls Tryd.prog 28 #[.int .u64 m, .slice a n c, .func (Fn.func 27) #[] #[.pointer (some ⟨cb, 0, none⟩)]] w fun e w' => e = .returned (.int .u64 (thoseN m l q)) ∧ Below w.heap.size w w' := by
  have hl := Lib.hid (hr.len hw)
  have hmx := Rd.le_max hr
  unfold maxLen at hmx
  replace HQ := Lib.hid HQ
  have hc64 := cardN_le m
  have hmlen := memN_len m
  go_enter Tryd.func28, Tryd.ntmps28
  go_wp2_with fail
  refine (list_any m w hm hT).mono ?_
  rintro e w2 ⟨v, rfl, hown, hb2⟩
  obtain ⟨ma, mc, rfl, hrm⟩ := Rd.own hown
  have hln := hrm.intLen
  have hr2 : RdI w2 a n c l := Rd.below hr hb2 (Nat.le_refl _)
  have hTN := Lib.hid (show thoseN m l q = thoseK m l q (cardN m) from by rw [thoseN, hmlen])
  clear hown hr hT
  go_wp2
  go_loopw [7, 13] (fun sv i wr => ∃ (k z : Nat), k ≤ cardN m ∧ i = .int .i64 k ∧ sv = .int .u64 z ∧ z < 18446744073709551616 ∧ Hid (z = thoseK m l q k) ∧ Below w2.heap.size w2 wr) (fun _ i _ => cardN m - (intOf i).toNat)
  case atStart => exact ⟨0, 0, Nat.zero_le _, rfl, rfl, by decide, rfl, Below.refl _ _⟩
  case round =>
    obtain ⟨k, z, hk, rfl, rfl, hz1, hz, hbr⟩ := hrel
    by_cases hlt : k < cardN m
    · have hkl : k < (memI m).length := by rw [hln]; exact hlt
      have hkn : k < (memN m).length := by rw [hmlen]; exact hlt
      have hkI : (k : Int) < cardN m := by omega
      have hrr := Rd.below hrm hbr (Nat.le_refl _)
      obtain ⟨bl, off, rfl, _⟩ := hrr.addr (by omega)
      have hc := hrr.at (j := k) (u := .int .i64 ((memN m)[k] : Nat)) (by rw [List.getElem?_map, List.getElem?_eq_getElem hkl, memI_at]; rfl)
      have hp := memN_at hkn
      have hS := Lib.hid (show thoseK m l q (k + 1) = if (l[k]?.map q).getD false = true then z ||| bitN (memN m)[k] else z from by
        rw [thoseK, ← hz.out, List.getD_eq_getElem?_getD, List.getElem?_eq_getElem hkn]; rfl)
      generalize (memN m)[k] = p at *
      have hpI : (p : Int) < 64 := by omega
      by_cases hlt2 : k < n
      · have hkl2 : k < l.length := by rw [hl.out]; exact hlt2
        have hkI2 : (k : Int) < n := by omega
        obtain ⟨b2, off2, rfl, _⟩ := Rd.addr (Rd.below hr2 hbr (Nat.le_refl _)) (by omega)
        have hR := RdI.range (show RdI wr (some ⟨b2, off2, none⟩) n c l from Rd.below hr2 hbr (Nat.le_refl _)) hw k hkl2
        have hC := Lib.hid (HQ.out l[k] (List.getElem_mem hkl2) wr (belS hb2 hbr))
        have hi := Tryd.itI (hw _ (List.getElem_mem hkl2))
        have hS2 : Hid (thoseK m l q (k + 1) = if q l[k] = true then z ||| bitN p else z) := hS.out.trans (by rw [List.getElem?_eq_getElem hkl2]; rfl)
        generalize hx : l[k] = x at *
        clear hx hS
        cases hq : q x with
        | false =>
          rw [hq] at hC hS2
          have hN : Hid (thoseK m l q (k + 1) = z) := hS2.out
          go_wp2_with (refine wpList_load_mid_g (by first | rfl | simp [Region.wanted, go_sem]) _ (.tmp 26) rfl b2 (off2 + k * 18) rfl x.cs _ hR Tryd.underlying48 rfl hi ?_)
          refine hC.out.mono ?_
          rintro e w5 ⟨rfl, hb5⟩
          go_wp2
          go_roundw
          case rel => exact ⟨k + 1, z, by omega, by go_num, rfl, hz1, hN.out.symm, belS hbr hb5⟩
          case measure => simp [intOf]; omega
        | true =>
          rw [hq] at hC hS2
          have hN : Hid (thoseK m l q (k + 1) = z ||| bitN p) := hS2.out
          go_wp2_with (refine wpList_load_mid_g (by first | rfl | simp [Region.wanted, go_sem]) _ (.tmp 26) rfl b2 (off2 + k * 18) rfl x.cs _ hR Tryd.underlying48 rfl hi ?_)
          refine hC.out.mono ?_
          rintro e w5 ⟨rfl, hb5⟩
          have hbr5 := belS hbr hb5
          go_wp2_with (first | (go_at_call 37; refine (with_any z 1 1 _ [(p : Int)] _ hz1 (by decide) (Rd.lit (by first | rfl | simp) rfl (by decide))).mono ?_; rintro e w' ⟨rfl, rfl⟩))
          go_roundw
          case rel => exact ⟨k + 1, z ||| bitN p, by omega, by go_num, rfl, or_lt hz1 (bitN_lt _), hN.out.symm, hbr5.alloc hbr5.size _⟩
          case measure => simp [intOf]; omega
      · have hkI2 : ¬ (k : Int) < n := by omega
        have hN : Hid (thoseK m l q (k + 1) = z) := hS.out.trans (by rw [List.getElem?_eq_none (by have := hl.out; omega)]; rfl)
        clear hS
        go_wp2
        go_roundw
        case rel => exact ⟨k + 1, z, by omega, by go_num, rfl, hz1, hN.out.symm, hbr⟩
        case measure => simp [intOf]; omega
    · obtain rfl : k = cardN m := by omega
      go_wp2
      go_ret
      exact ⟨ret_int (by rw [hTN.out, hz.out]), belS hb2 hbr⟩
set_option maxHeartbeats 1600000 in
set_option maxRecDepth 100000 in
theorem those_d (m : Nat) (hm : m < 18446744073709551616) (a : Option Addr) (n c : Nat) (l : List It) (hw : ∀ x ∈ l, x.Wf) (cb : Nat) (q : It → Bool) (w : World) (hr : RdI w a n c l) (hT : Tab w)
    (HQ : ∀ x ∈ l, ∀ W, Below w.heap.size w W → Calls Tryd.prog 29 #[.agg x.cs.toArray, .pointer (some ⟨cb, 0, none⟩)] W fun e w' => e = .returned (.bool (q x)) ∧ Below W.heap.size W w') :
    Calls Tryd.prog 28 #[.int .u64 m, .slice a n c, .func (Fn.func 29) #[] #[.pointer (some ⟨cb, 0, none⟩)]] w fun e w' => e = .returned (.int .u64 (thoseN m l q)) ∧ Below w.heap.size w w' := by
  have hl := Lib.hid (hr.len hw)
  have hmx := Rd.le_max hr
  unfold maxLen at hmx
  replace HQ := Lib.hid HQ
  have hc64 := cardN_le m
  have hmlen := memN_len m
  go_enter Tryd.func28, Tryd.ntmps28
  go_wp2_with fail
  refine (list_any m w hm hT).mono ?_
  rintro e w2 ⟨v, rfl, hown, hb2⟩
  obtain ⟨ma, mc, rfl, hrm⟩ := Rd.own hown
  have hln := hrm.intLen
  have hr2 : RdI w2 a n c l := Rd.below hr hb2 (Nat.le_refl _)
  have hTN := Lib.hid (show thoseN m l q = thoseK m l q (cardN m) from by rw [thoseN, hmlen])
  clear hown hr hT
  go_wp2
  go_loopw [7, 13] (fun sv i wr => ∃ (k z : Nat), k ≤ cardN m ∧ i = .int .i64 k ∧ sv = .int .u64 z ∧ z < 18446744073709551616 ∧ Hid (z = thoseK m l q k) ∧ Below w2.heap.size w2 wr) (fun _ i _ => cardN m - (intOf i).toNat)
  case atStart => exact ⟨0, 0, Nat.zero_le _, rfl, rfl, by decide, rfl, Below.refl _ _⟩
  case round =>
    obtain ⟨k, z, hk, rfl, rfl, hz1, hz, hbr⟩ := hrel
    by_cases hlt : k < cardN m
    · have hkl : k < (memI m).length := by rw [hln]; exact hlt
      have hkn : k < (memN m).length := by rw [hmlen]; exact hlt
      have hkI : (k : Int) < cardN m := by omega
      have hrr := Rd.below hrm hbr (Nat.le_refl _)
      obtain ⟨bl, off, rfl, _⟩ := hrr.addr (by omega)
      have hc := hrr.at (j := k) (u := .int .i64 ((memN m)[k] : Nat)) (by rw [List.getElem?_map, List.getElem?_eq_getElem hkl, memI_at]; rfl)
      have hp := memN_at hkn
      have hS := Lib.hid (show thoseK m l q (k + 1) = if (l[k]?.map q).getD false = true then z ||| bitN (memN m)[k] else z from by
        rw [thoseK, ← hz.out, List.getD_eq_getElem?_getD, List.getElem?_eq_getElem hkn]; rfl)
      generalize (memN m)[k] = p at *
      have hpI : (p : Int) < 64 := by omega
      by_cases hlt2 : k < n
      · have hkl2 : k < l.length := by rw [hl.out]; exact hlt2
        have hkI2 : (k : Int) < n := by omega
        obtain ⟨b2, off2, rfl, _⟩ := Rd.addr (Rd.below hr2 hbr (Nat.le_refl _)) (by omega)
        have hR := RdI.range (show RdI wr (some ⟨b2, off2, none⟩) n c l from Rd.below hr2 hbr (Nat.le_refl _)) hw k hkl2
        have hC := Lib.hid (HQ.out l[k] (List.getElem_mem hkl2) wr (belS hb2 hbr))
        have hi := Tryd.itI (hw _ (List.getElem_mem hkl2))
        have hS2 : Hid (thoseK m l q (k + 1) = if q l[k] = true then z ||| bitN p else z) := hS.out.trans (by rw [List.getElem?_eq_getElem hkl2]; rfl)
        generalize hx : l[k] = x at *
        clear hx hS
        cases hq : q x with
        | false =>
          rw [hq] at hC hS2
          have hN : Hid (thoseK m l q (k + 1) = z) := hS2.out
          go_wp2_with (refine wpList_load_mid_g (by first | rfl | simp [Region.wanted, go_sem]) _ (.tmp 26) rfl b2 (off2 + k * 18) rfl x.cs _ hR Tryd.underlying48 rfl hi ?_)
          refine hC.out.mono ?_
          rintro e w5 ⟨rfl, hb5⟩
          go_wp2
          go_roundw
          case rel => exact ⟨k + 1, z, by omega, by go_num, rfl, hz1, hN.out.symm, belS hbr hb5⟩
          case measure => simp [intOf]; omega
        | true =>
          rw [hq] at hC hS2
          have hN : Hid (thoseK m l q (k + 1) = z ||| bitN p) := hS2.out
          go_wp2_with (refine wpList_load_mid_g (by first | rfl | simp [Region.wanted, go_sem]) _ (.tmp 26) rfl b2 (off2 + k * 18) rfl x.cs _ hR Tryd.underlying48 rfl hi ?_)
          refine hC.out.mono ?_
          rintro e w5 ⟨rfl, hb5⟩
          have hbr5 := belS hbr hb5
          go_wp2_with (first | (go_at_call 37; refine (with_any z 1 1 _ [(p : Int)] _ hz1 (by decide) (Rd.lit (by first | rfl | simp) rfl (by decide))).mono ?_; rintro e w' ⟨rfl, rfl⟩))
          go_roundw
          case rel => exact ⟨k + 1, z ||| bitN p, by omega, by go_num, rfl, or_lt hz1 (bitN_lt _), hN.out.symm, hbr5.alloc hbr5.size _⟩
          case measure => simp [intOf]; omega
      · have hkI2 : ¬ (k : Int) < n := by omega
        have hN : Hid (thoseK m l q (k + 1) = z) := hS.out.trans (by rw [List.getElem?_eq_none (by have := hl.out; omega)]; rfl)
        clear hS
        go_wp2
        go_roundw
        case rel => exact ⟨k + 1, z, by omega, by go_num, rfl, hz1, hN.out.symm, hbr⟩
        case measure => simp [intOf]; omega
    · obtain rfl : k = cardN m := by omega
      go_wp2
      go_ret
      exact ⟨ret_int (by rw [hTN.out, hz.out]), belS hb2 hbr⟩
end Go.Proofs.YtcgfpolklfhppaaDoor
