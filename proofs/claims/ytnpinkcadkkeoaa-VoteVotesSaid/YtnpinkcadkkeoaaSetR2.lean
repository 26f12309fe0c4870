/- walks of the reference of sets: Of, All, Both, Any, But -/
import Derived.Test.YtnpinkcadkkeoaaSetR
namespace Go.Proofs.Ytnpinkcadkkeoaa
open Go.RowKit

set_option maxHeartbeats 1600000 in
set_option maxRecDepth 100000 in
theorem rboth_any (x y : Nat) (w : World) (hx : x < 18446744073709551616) (hy : y < 18446744073709551616) :
    Calls Try.prog 40 #[.int .u64 x, .int .u64 y] w fun e w' => e = .returned (.int .u64 (x &&& y : Nat)) ∧ Below w.heap.size w w' := by
  go_enter Try.func40, Try.ntmps40
  go_wp2_with fail
  refine (truths_any x _ hx).mono ?_
  rintro e w1 ⟨rfl, hb1⟩
  go_wp2_with fail
  refine (truths_any y _ hy).mono ?_
  rintro e w2 ⟨rfl, hb⟩
  have hb2 := belS hb1 hb
  clear hb hb1
  have hz2 := hb2.size
  have ha5 := (ArrAt.new w2 75 (fun _ => false)).alloc (.cells (arrV fun _ => false) 75)
  have ha6 : ArrAt ((w2.alloc (.cells (arrV fun _ => false) 75)).alloc (.cells (arrV fun _ => false) 75)) (w2.heap.size + 1) 75 (fun _ => false) := by simpa using ArrAt.new (w2.alloc (.cells (arrV fun _ => false) 75)) 75 (fun _ => false)
  have hb3 : Below w.heap.size w ((w2.alloc (.cells (arrV fun _ => false) 75)).alloc (.cells (arrV fun _ => false) 75)) := (hb2.alloc hz2 _).alloc (by simp; omega) _
  go_wp2_with (first
    | (refine wpList_arr_alloc Try.arrE rfl rfl w2.heap.size rfl ?_)
    | (refine wpList_arr_alloc Try.arrE rfl rfl (w2.heap.size + 1) (by simp) ?_)
    | (refine wpList_arr_store Try.arrE rfl (.tmp 5) (.tmp 9) rfl _ rfl _ _ rfl ha5 ?_; intro w4 ha4 hot4 hsz4 hos4 htp4 hout4; have ha7 : ArrAt w4 (w2.heap.size + 1) 75 (fun _ => false) := (hot4 _ (by omega)).trans ha6; have hb4 : Below w.heap.size w w4 := hb3.trans ⟨hos4, htp4, hout4, by omega, fun k hk => hot4 k (by omega)⟩)
    | (refine wpList_arr_store Try.arrE rfl (.tmp 6) (.tmp 11) rfl _ rfl _ _ rfl ha7 ?_; intro w5 ha8 hot5 hsz5 hos5 htp5 hout5; have ha9 : ArrAt w5 w2.heap.size 75 (tru x) := (hot5 _ (by omega)).trans ha4; have hb5 : Below w.heap.size w w5 := hb4.trans ⟨hos5, htp5, hout5, by omega, fun k hk => hot5 k (by omega)⟩))
  clear ha5 ha6 hb3 ha4 ha7 hot4 hot5 hsz4 hsz5 hos4 hos5 htp4 htp5 hout4 hout5 hb4
  go_loopw [7] (fun i wr => ∃ k : Nat, k ≤ 64 ∧ i = .int .i64 k ∧ ArrAt wr w2.heap.size 75 (fun j => if j < k then (x.testBit j && y.testBit j) else x.testBit j) ∧ ArrAt wr (w2.heap.size + 1) 75 (tru y) ∧ Below w.heap.size w wr) (fun i _ => 64 - (intOf i).toNat)
  case atStart => exact ⟨0, Nat.zero_le _, rfl, ha9.congr (by simp [tru]), ha8, hb5⟩
  case round =>
    obtain ⟨k, hk, rfl, h1, h2, hbr⟩ := hrel
    by_cases hlt : k < 64
    · have hc1 := h1.cell k hlt
      have hc2 := h2.cell k hlt
      have hf := h1.fz k
      simp only [Nat.lt_irrefl, if_false, tru] at hc1 hc2
      have hset := fun b => Lib.hid (h1.set k b hlt)
      have hoth := fun b => Lib.hid (h2.other (a := ⟨w2.heap.size, k, none⟩) (by simp) (.bool b))
      have hstep : ∀ b, b = (x.testBit k && y.testBit k) → ArrAt (wr.setCell ⟨w2.heap.size, k, none⟩ (.bool b)) w2.heap.size 75 (fun j => if j < k + 1 then (x.testBit j && y.testBit j) else x.testBit j) := fun b hb => (hset b).out.congr fun j hj => by
        by_cases e : j = k
        · subst e; subst hb; simp
        · by_cases hjk : j < k
          · simp [e, hjk, Nat.lt_succ_of_lt hjk]
          · have : ¬ j < k + 1 := by omega
            simp [e, hjk, this]
      have HS := Lib.hid hstep
      clear hstep hset
      cases hp : x.testBit k <;> cases hq : y.testBit k
      all_goals
        rw [hp] at hc1
        rw [hq] at hc2
        have HP := Lib.hid hp
        have HQ := Lib.hid hq
        clear hp hq
        go_wp2
        go_roundw
        case rel => exact ⟨k + 1, by omega, by go_num, HS.out _ (by rw [HP.out, HQ.out]; rfl), (hoth _).out, hbr.setCell hz2 _⟩
        case measure => simp [intOf]; omega
    · obtain rfl : k = 64 := by omega
      have hres := Lib.hid (setN_eq (f := fun j => if j < 64 then (x.testBit j && y.testBit j) else x.testBit j) (x := x &&& y) (and_lt x y hx) (fun i hi => by rw [if_pos hi]; exact (Nat.testBit_and x y i).symm))
      go_wp2_with (refine wpList_arr_load Try.arrE rfl (.tmp 5) rfl _ rfl _ h1 ?_)
      refine (rset_any _ _).mono ?_
      rintro e w6 ⟨rfl, hb6⟩
      rw [hres.out]
      go_wp2
      go_ret
      exact ⟨rfl, belS hbr hb6⟩
end Go.Proofs.Ytnpinkcadkkeoaa
