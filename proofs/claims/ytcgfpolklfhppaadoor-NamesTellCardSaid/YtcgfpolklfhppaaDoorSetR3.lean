/- walks of the reference of sets: Of, All, Has, List, Size, Min, In, Most, Same -/
import Derived.Test.YtcgfpolklfhppaaDoorSetR2
import Derived.Deep.QuietTactic
import Derived.BigQuiet
namespace Go.Proofs.YtcgfpolklfhppaaDoor
open Go.RowKit

/-- Is it in the list? -/
def inL (l : List Int) (j : Nat) : Bool := l.contains (j : Int)
set_option maxHeartbeats 1600000 in
set_option maxRecDepth 100000 in
theorem rlist_any (x : Nat) (w : World) (hx : x < 18446744073709551616) :
    Calls Tryd.prog 25 #[.int .u64 x] w fun e w' => ∃ v, e = .returned v ∧ w'.ownsRow w.heap.size 3 1 v (cardN x) ((memI x).map (Value.int .i64)) ∧ Below w.heap.size w w' := by
  go_enter Tryd.func25, Tryd.ntmps25
  go_wp2_with fail
  refine (truths_any x _ hx).mono ?_
  rintro e w1 ⟨rfl, hb1⟩
  have ha4 := ArrAt.new w1 71 (fun _ => false)
  have hz1 := hb1.size
  have hb2 : Below w.heap.size w (w1.alloc (.cells (arrV fun _ => false) 71)) := hb1.alloc hz1 _
  go_wp2_with (first
    | (refine wpList_arr_alloc Tryd.arrE rfl rfl w1.heap.size rfl ?_)
    | (refine wpList_arr_store Tryd.arrE rfl (.tmp 4) (.tmp 7) rfl _ rfl _ _ rfl ha4 ?_; intro w3 ha3 hot hsz hos htp hout; have hb3 : Below w.heap.size w w3 := hb2.trans ⟨hos, htp, hout, by omega, fun k hk => hot k (by omega)⟩))
  clear ha4 hb2
  simp at hsz
  go_loopw [3, 5] (fun o i wr => ∃ k : Nat, ∃ l : List Int, k ≤ 64 ∧ i = .int .i64 k ∧ ArrAt wr w1.heap.size 71 (tru x) ∧ Hid (l = ((List.range k).filter fun i => x.testBit i).map fun i : Nat => (i : Int)) ∧ l.length ≤ k ∧ wr.ownsRow (w1.heap.size + 1) 3 1 o l.length (l.map (Value.int .i64)) ∧ w1.heap.size < wr.heap.size ∧ Below w.heap.size w wr) (fun _ i _ => 64 - (intOf i).toNat)
  case atStart => exact ⟨0, [], Nat.zero_le _, rfl, ha3, rfl, Nat.le_refl _, World.ownsRow_nil _ _ _ _, by omega, hb3⟩
  case round =>
    obtain ⟨k, l, hk, rfl, ha, hl, hlk, hown, hlt1, hbr⟩ := hrel
    have hsize := hbr.size
    by_cases hlt : k < 64
    · have hc := ha.cell k hlt
      have hrs : (List.range (k + 1)).filter (fun i => x.testBit i) = (List.range k).filter (fun i => x.testBit i) ++ if x.testBit k then [k] else [] := by
        rw [List.range_succ, List.filter_append]; congr 1
        cases hb : x.testBit k <;> simp [hb]
      have HR := Lib.hid hrs
      clear hrs
      cases hb : x.testBit k with
      | false =>
        simp only [tru, hb] at hc
        have HB := Lib.hid hb
        clear hb
        go_wp2
        go_roundw
        case rel => exact ⟨k + 1, l, by omega, by go_num, ha, by show _ = _; rw [HR.out, HB.out, hl.out]; simp, by omega, hown, hlt1, hbr⟩
        case measure => simp [intOf]; omega
      | true =>
        simp only [tru, hb] at hc
        have HB := Lib.hid hb
        clear hb
        go_wp2_with (at_builtin; refine wpList_app1 Tryd.intE rfl (.tmp 15) (.tmp 17) rfl hown rfl rfl rfl (by unfold maxLen; omega) (by omega) hlt1 ?_; intro v' w' hown' hg')
        go_roundw
        case rel => exact ⟨k + 1, l ++ [(k : Int)], by omega, by go_num, (hg'.block _ (by simp; omega) (fun e => by have := (hown.lt _ e.symm).1; omega)).trans (ha.alloc _), by show _ = _; rw [HR.out, HB.out, hl.out]; simp, by simp; omega, by rw [List.length_append, List.map_append]; exact hown', by have := hg'.size; simp at this; omega, (hbr.alloc hsize _).grown hg' (by simp; omega) (fun j hj => by have := (hown.lt j hj).1; omega)⟩
        case measure => simp [intOf]; omega
    · obtain rfl : k = 64 := by omega
      have hm : l = memI x := hl.out
      have hc : l.length = cardN x := by rw [hm, memI_len]
      rw [hm] at hown
      rw [hm] at hc
      rw [hc] at hown
      clear hm hl
      go_wp2
      go_ret
      exact ⟨_, rfl, own_mono hown (by omega), hbr⟩
end Go.Proofs.YtcgfpolklfhppaaDoor
