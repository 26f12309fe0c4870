/- walks of the reference of sets: Of, All, Has, List, Size, Min, In, Most, Same -/
import Derived.Test.YtfmdfoopdbkgpaaDoorSetR2
import Derived.Deep.QuietTactic
import Derived.BigQuiet
namespace Go.Proofs.YtfmdfoopdbkgpaaDoor
open Go.RowKit

/-- Is it in the list? -/
def inL (l : List Int) (j : Nat) : Bool := l.contains (j : Int)
set_option maxHeartbeats 1600000 in
set_option maxRecDepth 100000 in
theorem rof_some (b off n c : Nat) (l : List Int) (w : World) (hn : n ≤ 9223372036854775807) (hbw : b < w.heap.size) (hr : Rd w 1 (some ⟨b, off, none⟩) n c (l.map (Value.int .i64))) :
    Calls Tryd.prog 10 #[.slice (some ⟨b, off, none⟩) n c] w fun e w' => e = .returned (.int .u64 (withN 0 l)) ∧ Below w.heap.size w w' := by
  have hl := Lib.hid hr.intLen
  go_enter Tryd.func10, Tryd.ntmps10
  go_wp2_with (refine wpList_arr_alloc Tryd.arrE rfl rfl w.heap.size rfl ?_)
  go_loopw [4] (fun i wr => ∃ k : Nat, k ≤ n ∧ i = .int .i64 k ∧ ArrAt wr w.heap.size 45 (fun j => (l.take k).contains (j : Int)) ∧ Below w.heap.size w wr) (fun i _ => n - (intOf i).toNat)
  case atStart => exact ⟨0, Nat.zero_le _, rfl, (ArrAt.new w _ _).congr (by simp), (Below.refl _ _).alloc (Nat.le_refl _) _⟩
  case round =>
    obtain ⟨k, hk, rfl, h1, hbr⟩ := hrel
    by_cases hlt : k < n
    · have hkl : k < l.length := by rw [hl.out]; exact hlt
      have hc := (hr.below hbr (Nat.le_refl _)).int1 k hkl
      have htk := Lib.hid (List.take_succ_eq_append_getElem hkl)
      generalize hp : l[k] = p at *
      have HP := Lib.hid hp
      clear hp
      by_cases hin : 0 ≤ p ∧ p < 64
      · obtain ⟨m, rfl⟩ : ∃ m : Nat, p = m := ⟨p.toNat, by omega⟩
        have hm : m < 64 := by omega
        have hc2 := h1.cell m hm
        have hf := h1.fz m
        have hset := Lib.hid ((h1.set m true hm).congr (g := fun j => (l.take (k + 1)).contains (j : Int)) (fun j hj => by
          rw [htk.out, List.contains_append]
          by_cases e : j = m
          · subst e; simp
          · have : (j : Int) ≠ (m : Int) := by omega
            simp [e, this]))
        have hcell' := Lib.hid (hbr.setCell (p := ⟨w.heap.size, m, none⟩) (Nat.le_refl _) (.bool true))
        clear hin
        go_wp2
        go_roundw
        case rel => exact ⟨k + 1, by omega, by go_num, hset.out, hcell'.out⟩
        case measure => simp [intOf]; omega
      · have hset := h1.congr (g := fun j => (l.take (k + 1)).contains (j : Int)) (fun j hj => by
          rw [htk.out, List.contains_append]
          have : (j : Int) ≠ p := by omega
          simp [this])
        by_cases hp0 : p < 0
        · clear hin
          go_wp2
          go_roundw
          case rel => exact ⟨k + 1, by omega, by go_num, hset, hbr⟩
          case measure => simp [intOf]; omega
        · have hp1 : 64 ≤ p := by omega
          clear hin
          go_wp2
          go_roundw
          case rel => exact ⟨k + 1, by omega, by go_num, hset, hbr⟩
          case measure => simp [intOf]; omega
    · have h2 : ArrAt wr w.heap.size 45 (inL l) := by
        rw [List.take_of_length_le (by rw [hl.out]; omega)] at h1; exact h1
      have hres := Lib.hid (setN_eq (f := inL l) (x := withN 0 l) (withN_lt l (by decide)) (fun i hi => by rw [withN_bit l i hi]; simp [inL]))
      clear h1
      go_wp2_with (refine wpList_arr_load Tryd.arrE rfl (.tmp 3) rfl _ rfl _ h2 ?_)
      refine (rset_any _ _).mono ?_
      rintro e w6 ⟨rfl, hb6⟩
      rw [hres.out]
      go_wp2
      go_ret
      exact ⟨rfl, belS hbr hb6⟩
set_option maxHeartbeats 1600000 in
theorem rof_nil (a : Option Addr) (c : Nat) (w : World) :
    Calls Tryd.prog 10 #[.slice a 0 c] w fun e w' => e = .returned (.int .u64 (withN 0 [])) ∧ Below w.heap.size w w' := by
  have hres := Lib.hid (setN_eq (f := fun _ => false) (x := withN 0 []) (withN_lt [] (by decide)) (fun i hi => by simp [withN]))
  have h2 := ArrAt.new w 45 (fun _ => false)
  have hbr : Below w.heap.size w (w.alloc (.cells (arrV fun _ => false) 45)) := (Below.refl _ _).alloc (Nat.le_refl _) _
  go_enter Tryd.func10, Tryd.ntmps10
  go_wp2_with (refine wpList_arr_alloc Tryd.arrE rfl rfl w.heap.size rfl ?_)
  generalize w.alloc (.cells (arrV fun _ => false) 45) = wr at *
  refine wp_loop_rounds 1 ?_
  rw [rounds_succ]
  go_wp2_with (refine wpList_arr_load Tryd.arrE rfl (.tmp 3) rfl _ rfl _ h2 ?_)
  refine (rset_any _ _).mono ?_
  rintro e w6 ⟨rfl, hb6⟩
  rw [hres.out]
  go_wp2
  go_ret
  exact ⟨rfl, belS hbr hb6⟩
theorem rof_any (a : Option Addr) (n c : Nat) (l : List Int) (w : World) (hn : n ≤ 9223372036854775807) (hr : Rd w 1 a n c (l.map (Value.int .i64))) :
    Calls Tryd.prog 10 #[.slice a n c] w fun e w' => e = .returned (.int .u64 (withN 0 l)) ∧ Below w.heap.size w w' := by
  rcases hr.2 with rfl | ⟨b, off, rfl, hlt, _⟩
  · obtain rfl := List.eq_nil_of_length_eq_zero hr.intLen
    exact rof_nil a c w
  · exact rof_some b off n c l w hn hlt hr

set_option maxHeartbeats 1600000 in
set_option maxRecDepth 100000 in
theorem rall_any (n : Int) (w : World) :
    Calls Tryd.prog 34 #[.int .i64 n] w fun e w' => e = .returned (.int .u64 (allN n)) ∧ Below w.heap.size w w' := by
  go_enter Tryd.func34, Tryd.ntmps34
  go_wp2_with (refine wpList_arr_alloc Tryd.arrE rfl rfl w.heap.size rfl ?_)
  go_loopw [4] (fun i wr => ∃ k : Nat, k ≤ 64 ∧ i = .int .i64 k ∧ ArrAt wr w.heap.size 45 (fun j => decide (j < k) && decide ((j : Int) < n)) ∧ Below w.heap.size w wr) (fun i _ => 64 - (intOf i).toNat)
  case atStart => exact ⟨0, Nat.zero_le _, rfl, (ArrAt.new w _ _).congr (by simp), (Below.refl _ _).alloc (Nat.le_refl _) _⟩
  case round =>
    obtain ⟨k, hk, rfl, h1, hbr⟩ := hrel
    by_cases hlt : k < 64
    · have hc2 := h1.cell k hlt
      have hf := h1.fz k
      have hset := Lib.hid ((h1.set k (decide ((k : Int) < n)) hlt).congr (g := fun j => decide (j < k + 1) && decide ((j : Int) < n)) (fun j hj => by
          by_cases e : j = k
          · subst e; simp
          · have : decide (j < k + 1) = decide (j < k) := by rw [decide_eq_decide]; omega
            rw [if_neg e, this]))
      go_wp2
      go_roundw
      case rel => exact ⟨k + 1, by omega, by go_num, hset.out, hbr.setCell (Nat.le_refl _) _⟩
      case measure => simp [intOf]; omega
    · obtain rfl : k = 64 := by omega
      have hres := Lib.hid (setN_eq (f := fun j => decide (j < 64) && decide ((j : Int) < n)) (x := allN n) (allN_lt n) (fun i hi => by rw [allN_bit n i hi]; simp [hi]))
      go_wp2_with (refine wpList_arr_load Tryd.arrE rfl (.tmp 3) rfl _ rfl _ h1 ?_)
      refine (rset_any _ _).mono ?_
      rintro e w6 ⟨rfl, hb6⟩
      rw [hres.out]
      go_wp2
      go_ret
      exact ⟨rfl, belS hbr hb6⟩

set_option maxHeartbeats 800000 in
theorem rhas_any (x : Nat) (p : Int) (w : World) (hx : x < 18446744073709551616) :
    Calls Tryd.prog 26 #[.int .u64 x, .int .i64 p] w fun e w' => e = .returned (.bool (hasB x p)) ∧ Below w.heap.size w w' := by
  by_cases h0 : p < 0
  · have hr := Lib.hid (show hasB x p = false by rw [hasB_eq]; simp; omega)
    go_enter Tryd.func26, Tryd.ntmps26
    go_wp2
    go_ret
    exact ⟨ret_bool hr.out.symm, Below.refl _ _⟩
  by_cases h1 : 64 ≤ p
  · have hr := Lib.hid (show hasB x p = false by rw [hasB_eq]; simp; omega)
    go_enter Tryd.func26, Tryd.ntmps26
    go_wp2
    go_ret
    exact ⟨ret_bool hr.out.symm, Below.refl _ _⟩
  obtain ⟨m, rfl⟩ : ∃ m : Nat, p = m := ⟨p.toNat, by omega⟩
  have hr : hasB x m = x.testBit m := by rw [hasB_eq, Int.toNat_natCast]; have : decide (0 ≤ (m : Int) ∧ (m : Int) < 64) = true := by simp; omega
                                         rw [this]; simp
  have hi := fun w => run_arr_index Tryd.arrE w (tru x) m (by omega)
  have HR := Lib.hid hr
  clear hr
  go_enter Tryd.func26, Tryd.ntmps26
  go_wp2_with fail
  refine (truths_any x _ hx).mono ?_
  rintro e w1 ⟨rfl, hb⟩
  go_wp2
  go_ret
  exact ⟨ret_bool (by rw [HR.out]; rfl), hb⟩

set_option maxHeartbeats 1600000 in
set_option maxRecDepth 100000 in
theorem rlist_any (x : Nat) (w : World) (hx : x < 18446744073709551616) :
    Calls Tryd.prog 32 #[.int .u64 x] w fun e w' => ∃ v, e = .returned v ∧ w'.ownsRow w.heap.size 3 1 v (cardN x) ((memI x).map (Value.int .i64)) ∧ Below w.heap.size w w' := by
  go_enter Tryd.func32, Tryd.ntmps32
  go_wp2_with fail
  refine (truths_any x _ hx).mono ?_
  rintro e w1 ⟨rfl, hb1⟩
  have ha4 := ArrAt.new w1 45 (fun _ => false)
  have hz1 := hb1.size
  have hb2 : Below w.heap.size w (w1.alloc (.cells (arrV fun _ => false) 45)) := hb1.alloc hz1 _
  go_wp2_with (first
    | (refine wpList_arr_alloc Tryd.arrE rfl rfl w1.heap.size rfl ?_)
    | (refine wpList_arr_store Tryd.arrE rfl (.tmp 4) (.tmp 7) rfl _ rfl _ _ rfl ha4 ?_; intro w3 ha3 hot hsz hos htp hout; have hb3 : Below w.heap.size w w3 := hb2.trans ⟨hos, htp, hout, by omega, fun k hk => hot k (by omega)⟩))
  clear ha4 hb2
  simp at hsz
  go_loopw [3, 5] (fun o i wr => ∃ k : Nat, ∃ l : List Int, k ≤ 64 ∧ i = .int .i64 k ∧ ArrAt wr w1.heap.size 45 (tru x) ∧ Hid (l = ((List.range k).filter fun i => x.testBit i).map fun i : Nat => (i : Int)) ∧ l.length ≤ k ∧ wr.ownsRow (w1.heap.size + 1) 3 1 o l.length (l.map (Value.int .i64)) ∧ w1.heap.size < wr.heap.size ∧ Below w.heap.size w wr) (fun _ i _ => 64 - (intOf i).toNat)
  case atStart => exact ⟨0, [], Nat.zero_le _, rfl, ha3, rfl, Nat.le_refl _, World.ownsRow_nil _ _ _ _, by omega, hb3⟩
  case round =>
    obtain ⟨k, l, hk, rfl, ha, hl, hlk, hown, hlt1, hbr⟩ := hrel
    have hsize := hbr.size
    by_cases hlt : k < 64
    · have hc := ha.cell k hlt
      have hrs : (List.range (k + 1)).filter (fun i => x.testBit i) = (List.range k).filter (fun i => x.testBit i) ++ if x.testBit k then [k] else [] := by
        rw [List.range_succ, List.filter_append]; congr 1
        cases hb : x.testBit k <;> simp [hb]
      have HR := Lib.hid hrs
      clear hrs
      cases hb : x.testBit k with
      | false =>
        simp only [tru, hb] at hc
        have HB := Lib.hid hb
        clear hb
        go_wp2
        go_roundw
        case rel => exact ⟨k + 1, l, by omega, by go_num, ha, by show _ = _; rw [HR.out, HB.out, hl.out]; simp, by omega, hown, hlt1, hbr⟩
        case measure => simp [intOf]; omega
      | true =>
        simp only [tru, hb] at hc
        have HB := Lib.hid hb
        clear hb
        go_wp2_with (at_builtin; refine wpList_app1 Tryd.intE rfl (.tmp 15) (.tmp 17) rfl hown rfl rfl rfl (by unfold maxLen; omega) (by omega) hlt1 ?_; intro v' w' hown' hg')
        go_roundw
        case rel => exact ⟨k + 1, l ++ [(k : Int)], by omega, by go_num, (hg'.block _ (by simp; omega) (fun e => by have := (hown.lt _ e.symm).1; omega)).trans (ha.alloc _), by show _ = _; rw [HR.out, HB.out, hl.out]; simp, by simp; omega, by rw [List.length_append, List.map_append]; exact hown', by have := hg'.size; simp at this; omega, (hbr.alloc hsize _).grown hg' (by simp; omega) (fun j hj => by have := (hown.lt j hj).1; omega)⟩
        case measure => simp [intOf]; omega
    · obtain rfl : k = 64 := by omega
      have hm : l = memI x := hl.out
      have hc : l.length = cardN x := by rw [hm, memI_len]
      rw [hm] at hown
      rw [hm] at hc
      rw [hc] at hown
      clear hm hl
      go_wp2
      go_ret
      exact ⟨_, rfl, own_mono hown (by omega), hbr⟩
end Go.Proofs.YtfmdfoopdbkgpaaDoor
