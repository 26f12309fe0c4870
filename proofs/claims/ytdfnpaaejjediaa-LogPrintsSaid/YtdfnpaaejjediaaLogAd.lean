/- log: LogPrints -/
import Derived.Test.YtdfnpaaejjediaaLogAc
import Derived.Test.YtdfnpaaejjediaaLogZi
namespace Go.Proofs.Ytdfnpaaejjediaa
open Go.RowKit

set_option maxHeartbeats 6400000 in
set_option maxRecDepth 100000 in
theorem prints_walk (s : St) (pa : Option Addr) (pn pc : Nat) (x : It) (D : ByteArray) (qa : Option Addr) (qn qc : Nat) (w : World) (hs : s.Wf) (hp : RdV w pa pn pc s.rc.pend) (hx : x.Wf) (hd : x.data = bI D) (hq : RdV w qa qn qc x.rc.pend) :
    Calls Try.prog 3 #[.agg #[.int .u64 s.epoch, .int .u32 s.inc, .int .u64 s.rc.last.num, .int .u64 s.rc.last.ce, .int .i64 s.rc.last.cr, .int .u64 s.rc.last.mem, .slice pa pn pc], .agg #[.int .i64 x.kind, .string D, .int .u32 x.inc, .int .u64 x.holds, .bool x.has, .bool x.direct, .int .u64 x.rc.last.num, .int .u64 x.rc.last.ce, .int .i64 x.rc.last.cr, .int .u64 x.rc.last.mem, .slice qa qn qc, .int .u64 x.view.num, .int .u64 x.view.ce, .int .i64 x.view.cr, .int .u64 x.view.mem, .int .u64 x.number, .int .i64 x.index, .int .i64 x.total]] w fun e w' => e = .returned (.bool true) ∧ Below w.heap.size w w' := by
  obtain ⟨wS, hwS⟩ : ∃ wS, wS = (w.alloc (.cells #[.int .u64 s.epoch, .int .u32 s.inc, .int .u64 s.rc.last.num, .int .u64 s.rc.last.ce, .int .i64 s.rc.last.cr, .int .u64 s.rc.last.mem, .slice pa pn pc] 32)).alloc (.cells #[.int .i64 x.kind, .string D, .int .u32 x.inc, .int .u64 x.holds, .bool x.has, .bool x.direct, .int .u64 x.rc.last.num, .int .u64 x.rc.last.ce, .int .i64 x.rc.last.cr, .int .u64 x.rc.last.mem, .slice qa qn qc, .int .u64 x.view.num, .int .u64 x.view.ce, .int .i64 x.view.cr, .int .u64 x.view.mem, .int .u64 x.number, .int .i64 x.index, .int .i64 x.total] 34) := ⟨_, rfl⟩
  have E : Below w.heap.size w wS := by rw [hwS]; exact ((Below.refl _ _).alloc (Nat.le_refl _) _).alloc (by simp) _
  have BA : BlkAt wS w.heap.size 32 #[.int .u64 s.epoch, .int .u32 s.inc, .int .u64 s.rc.last.num, .int .u64 s.rc.last.ce, .int .i64 s.rc.last.cr, .int .u64 s.rc.last.mem, .slice pa pn pc] := by rw [hwS]; exact (BlkAt.new w _ _).alloc _
  have BB : BlkAt wS (w.heap.size + 1) 34 #[.int .i64 x.kind, .string D, .int .u32 x.inc, .int .u64 x.holds, .bool x.has, .bool x.direct, .int .u64 x.rc.last.num, .int .u64 x.rc.last.ce, .int .i64 x.rc.last.cr, .int .u64 x.rc.last.mem, .slice qa qn qc, .int .u64 x.view.num, .int .u64 x.view.ce, .int .i64 x.view.cr, .int .u64 x.view.mem, .int .u64 x.number, .int .i64 x.index, .int .i64 x.total] := by
    rw [hwS]
    have := BlkAt.new (w.alloc (.cells #[.int .u64 s.epoch, .int .u32 s.inc, .int .u64 s.rc.last.num, .int .u64 s.rc.last.ce, .int .i64 s.rc.last.cr, .int .u64 s.rc.last.mem, .slice pa pn pc] 32)) 34 #[.int .i64 x.kind, .string D, .int .u32 x.inc, .int .u64 x.holds, .bool x.has, .bool x.direct, .int .u64 x.rc.last.num, .int .u64 x.rc.last.ce, .int .i64 x.rc.last.cr, .int .u64 x.rc.last.mem, .slice qa qn qc, .int .u64 x.view.num, .int .u64 x.view.ce, .int .i64 x.view.cr, .int .u64 x.view.mem, .int .u64 x.number, .int .i64 x.index, .int .i64 x.total]
    simpa using this
  replace hp : RdV wS pa pn pc s.rc.pend := hp.below E (Nat.le_refl _)
  replace hq : RdV wS qa qn qc x.rc.pend := hq.below E (Nat.le_refl _)
  have hbig : pn ≤ maxLen := Rd.le_max hp
  have hbig2 : qn ≤ maxLen := Rd.le_max hq
  replace hwS := Lib.hid hwS
  have HP := Lib.hid (fun W (h : RdV W pa pn pc s.rc.pend) => print_any s pa pn pc hs W h)
  have HRP := Lib.hid (fun W (h : RdV W pa pn pc s.rc.pend) => rprint_any s pa pn pc hs W h)
  have HI := Lib.hid (fun W (hD : D.size ≤ 5000) (h : RdV W qa qn qc x.rc.pend) => pitem_any x D qa qn qc W hx hd hD h)
  have HRI := Lib.hid (fun W (hD : D.size ≤ 5000) (h : RdV W qa qn qc x.rc.pend) => rpitem_any x D qa qn qc W hx hd hD h)
  have HS := Lib.hid (fun W => stable_any s pa pn pc W)
  have HT := Lib.hid (fun W => item_any x D qa qn qc W)
  clear hd hs hx
  generalize prS s = T at *
  generalize recE s.rc = er at *
  generalize prI x = U at *
  generalize itE x = es at *
  go_enter Try.func3, Try.ntmps3
  go_wp2_with (first
    | (refine wpList_blk_box rfl (.tmp 0) rfl rfl w.heap.size rfl ?_)
    | (refine wpList_blk_box rfl (.tmp 1) rfl rfl (w.heap.size + 1) (by simp) ?_))
  rw [← hwS.out]
  refine (awake_any _).mono ?_
  rintro e w1 ⟨rfl, hb⟩
  replace BA := BA.below hb BA.lt
  replace BB := BB.below hb BB.lt
  replace hp : RdV w1 pa pn pc s.rc.pend := hp.below hb (Nat.le_refl _)
  replace hq : RdV w1 qa qn qc x.rc.pend := hq.below hb (Nat.le_refl _)
  replace E := belS E hb
  clear hb
  have a6 : w1.cell? ⟨w.heap.size, 6, none⟩ = some (.slice pa pn pc) := BA.cell rfl
  have b10 : w1.cell? ⟨w.heap.size + 1, 10, none⟩ = some (.slice qa qn qc) := BB.cell rfl
  have b1 : w1.cell? ⟨w.heap.size + 1, 1, none⟩ = some (.string D) := BB.cell rfl
  by_cases h3 : 300 < pn
  · have h3I : (300 : Int) < pn := by omega
    go_wp2
    go_ret
    exact ⟨rfl, E⟩
  have h3I : ¬ (300 : Int) < pn := by omega
  by_cases h4 : 300 < qn
  · have h4I : (300 : Int) < qn := by omega
    go_wp2
    go_ret
    exact ⟨rfl, E⟩
  have h4I : ¬ (300 : Int) < qn := by omega
  by_cases h5 : 5000 < D.size
  · have h5I : (5000 : Int) < D.size := by omega
    go_wp2
    go_ret
    exact ⟨rfl, E⟩
  have h5I : ¬ (5000 : Int) < D.size := by omega
  have HK := Lib.hid (fun W (h : Below w1.heap.size w1 W) => show BlkAt W w.heap.size 32 #[.int .u64 s.epoch, .int .u32 s.inc, .int .u64 s.rc.last.num, .int .u64 s.rc.last.ce, .int .i64 s.rc.last.cr, .int .u64 s.rc.last.mem, .slice pa pn pc] ∧ BlkAt W (w.heap.size + 1) 34 #[.int .i64 x.kind, .string D, .int .u32 x.inc, .int .u64 x.holds, .bool x.has, .bool x.direct, .int .u64 x.rc.last.num, .int .u64 x.rc.last.ce, .int .i64 x.rc.last.cr, .int .u64 x.rc.last.mem, .slice qa qn qc, .int .u64 x.view.num, .int .u64 x.view.ce, .int .i64 x.view.cr, .int .u64 x.view.mem, .int .u64 x.number, .int .i64 x.index, .int .i64 x.total] ∧ RdV W pa pn pc s.rc.pend ∧ RdV W qa qn qc x.rc.pend ∧ Below w.heap.size w W from ⟨BA.below h BA.lt, BB.below h BB.lt, hp.below h (Nat.le_refl _), hq.below h (Nat.le_refl _), belS E h⟩)
  have b01 : Below w1.heap.size w1 w1 := Below.refl _ _
  have hD := Lib.hid (show D.size ≤ 5000 by omega)
  go_wp2_with (first | (refine wpList_blk_load rfl (.tmp 2) rfl Try.underlying32 rfl rfl BA Try.stI ?_))
  refine (HP.out _ hp).mono ?_
  rintro e w2 ⟨rfl, hb⟩
  clear a6 b10 b1 BA BB hp hq E
  (replace hb := belS b01 hb; replace b01 := hb; clear hb; obtain ⟨BA, BB, hp, hq, E⟩ := HK.out _ b01)
  go_wp2_with (first | (refine wpList_blk_load rfl (.tmp 2) rfl Try.underlying32 rfl rfl BA Try.stI ?_))
  refine (HS.out _).mono ?_
  rintro e w3 ⟨rfl, hb⟩
  clear BA BB hp hq E
  (replace hb := belS b01 hb; replace b01 := hb; clear hb; obtain ⟨BA, BB, hp, hq, E⟩ := HK.out _ b01)
  go_wp2_with fail
  refine (HRP.out _ hp).mono ?_
  rintro e w4 ⟨rfl, hb⟩
  clear BA BB hp hq E
  (replace hb := belS b01 hb; replace b01 := hb; clear hb; obtain ⟨BA, BB, hp, hq, E⟩ := HK.out _ b01)
  go_wp2_with (first | (refine wpList_blk_load rfl (.tmp 3) rfl Try.underlying34 rfl rfl BB Try.itI ?_))
  refine (HI.out _ hD.out hq).mono ?_
  rintro e w5 ⟨rfl, hb⟩
  clear BA BB hp hq E
  (replace hb := belS b01 hb; replace b01 := hb; clear hb; obtain ⟨BA, BB, hp, hq, E⟩ := HK.out _ b01)
  go_wp2_with (first | (refine wpList_blk_load rfl (.tmp 3) rfl Try.underlying34 rfl rfl BB Try.itI ?_))
  refine (HT.out _).mono ?_
  rintro e w6 ⟨rfl, hb⟩
  clear BA BB hp hq E
  (replace hb := belS b01 hb; replace b01 := hb; clear hb; obtain ⟨BA, BB, hp, hq, E⟩ := HK.out _ b01)
  go_wp2_with fail
  refine (HRI.out _ hD.out hq).mono ?_
  rintro e w7 ⟨rfl, hb⟩
  clear BA BB hp hq E
  (replace hb := belS b01 hb; replace b01 := hb; clear hb; obtain ⟨BA, BB, hp, hq, E⟩ := HK.out _ b01)
  clear BA BB hp hq
  go_wp2
  go_ret
  exact ⟨rfl, E⟩
theorem prints_law (cs0 cs1 : Array Value) (w : World) (h0 : ∃ x, RStab w cs0.toList x) (h1 : ∃ x, RItem w cs1.toList x) :
    Calls Try.prog 3 #[.agg cs0, .agg cs1] w fun e w' => e = .returned (.bool true) ∧ Below w.heap.size w w' := by
  obtain ⟨x0, h0⟩ := h0
  obtain ⟨x1, h1⟩ := h1
  obtain ⟨s, pa, pn, pc, rfl, hp, hs⟩ := h0.st
  obtain ⟨x, D, qa, qn, qc, rfl, hd, _, hq, hx, _, _, _⟩ := h1.it
  exact prints_walk s pa pn pc x D qa qn qc w hs hp hx hd hq
end Go.Proofs.Ytdfnpaaejjediaa
