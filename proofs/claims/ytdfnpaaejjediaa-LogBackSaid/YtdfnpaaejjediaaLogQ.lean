/- log: the walk of awake -/
import Derived.Test.YtdfnpaaejjediaaLogP
import Derived.Test.YtdfnpaaejjediaaLogI
import Derived.Test.YtdfnpaaejjediaaSetB
namespace Go.Proofs.Ytdfnpaaejjediaa
open Go.RowKit

theorem alloc_store {w w' : World} {o : Obj} (k : Kp w.heap.size (w.alloc o) w') : Below w.heap.size w w' := Kp.below ((Below.refl _ _).alloc (Nat.le_refl _) _) k (Nat.le_refl _) (by simp)
theorem bI_inj2 {a b : ByteArray} (h : bI a = bI b) : a = b := by
  apply bL_ext
  have hinj : ∀ l m : List UInt8, l.map (fun c => (c.toNat : Int)) = m.map (fun c => (c.toNat : Int)) → l = m := by
    intro l
    induction l with
    | nil => intro m h; cases m with
      | nil => rfl
      | cons _ _ => cases h
    | cons x l ih => intro m h; cases m with
      | nil => cases h
      | cons y m =>
        simp only [List.map_cons, List.cons.injEq] at h
        rw [ih m h.2]
        congr 1
        exact UInt8.toNat_inj.1 (by omega)
  exact hinj _ _ h
set_option maxHeartbeats 800000 in
set_option maxRecDepth 100000 in
theorem aw_first (w : World) : Calls Try.prog 22 #[.int .i64 3] w fun e w' => e = .returned (.agg #[.int .u64 0, .int .u64 0, .int .i64 0, .int .u64 7, .slice none 0 0]) ∧ Below w.heap.size w w' := by
  have HA := Lib.hid (fun W => allS_any 3 W)
  rw [show allN 3 = 7 from by decide] at HA
  go_enter Try.func22, Try.ntmps22
  go_wp2_with fail
  refine (HA.out _).mono ?_
  rintro e w' ⟨rfl, rfl⟩
  go_wp2
  refine bodyPost_ret (v := .agg #[.int .u64 0, .int .u64 0, .int .i64 0, .int .u64 7, .slice none 0 0]) (by simp [results, Try.results22, go_sem]) rfl ⟨rfl, ?_⟩
  exact (Below.refl _ _).alloc (Nat.le_refl _) _
def it1 : It := ⟨1, [104, 105], 0, 0, false, false, ⟨.zero, []⟩, .zero, 0, 0, 0⟩
theorem vz_wf : Vw.zero.Wf := by unfold Vw.Wf Vw.zero; decide
theorem it1_wf : it1.Wf := ⟨by decide, by decide, ⟨vz_wf, by intro v hv; cases hv⟩, vz_wf, by decide, (by unfold ByL it1; decide)⟩
def st1 : St := ⟨5, 2, ⟨⟨0, 0, 0, 7⟩, []⟩⟩
theorem aw_p1 (w : World) : Calls Try.prog 11 #[.agg #[.int .i64 1, .string ⟨#[104, 105]⟩, .int .u32 0, .int .u64 0, .bool false, .bool false, .int .u64 0, .int .u64 0, .int .i64 0, .int .u64 0, .slice none 0 0, .int .u64 0, .int .u64 0, .int .i64 0, .int .u64 0, .int .u64 0, .int .i64 0, .int .i64 0]] w fun e w' => e = .returned (.tuple #[.string ⟨#[1, 104, 105]⟩, .int .i64 0]) ∧ Below w.heap.size w w' := by
  have h := pitem_any it1 ⟨#[104, 105]⟩ none 0 0 w it1_wf (by decide +kernel) (by decide) (Rd.mk_nil _ _)
  rw [show prI it1 = ⟨#[1, 104, 105]⟩ from by decide +kernel, show itE it1 = 0 from by decide] at h
  exact h
theorem aw_q1 (w : World) : Calls Try.prog 16 #[.string ⟨#[1, 104, 105]⟩] w fun e w' => (∃ (x : It) (pa : Option Addr) (pn pc : Nat), e = .returned (.tuple #[.agg #[.int .i64 x.kind, .string ⟨#[104, 105]⟩, .int .u32 x.inc, .int .u64 x.holds, .bool x.has, .bool x.direct, .int .u64 x.rc.last.num, .int .u64 x.rc.last.ce, .int .i64 x.rc.last.cr, .int .u64 x.rc.last.mem, .slice pa pn pc, .int .u64 x.view.num, .int .u64 x.view.ce, .int .i64 x.view.cr, .int .u64 x.view.mem, .int .u64 x.number, .int .i64 x.index, .int .i64 x.total], .int .i64 0])) ∧ Below w.heap.size w w' := by
  refine (parseItem_any ⟨#[1, 104, 105]⟩ w (by decide)).mono ?_
  rintro e w' ⟨⟨x, D, pa, pn, pc, rfl, h1, _, h3, _⟩, hb⟩
  have e0 : itPE (bI ⟨#[1, 104, 105]⟩) = 0 := by decide +kernel
  have hx := h1.out e0
  have e1 : (itPV (bI ⟨#[1, 104, 105]⟩)).data = bI ⟨#[104, 105]⟩ := by decide +kernel
  have hD : D = ⟨#[104, 105]⟩ := bI_inj2 (by rw [← h3, hx, e1])
  subst hD
  rw [e0]
  exact ⟨⟨x, pa, pn, pc, rfl⟩, hb⟩
theorem aw_q3 (w : World) : Calls Try.prog 16 #[.string ⟨#[5]⟩] w fun e w' => (∃ (x : It) (D : ByteArray) (pa : Option Addr) (pn pc : Nat), e = .returned (.tuple #[.agg #[.int .i64 x.kind, .string D, .int .u32 x.inc, .int .u64 x.holds, .bool x.has, .bool x.direct, .int .u64 x.rc.last.num, .int .u64 x.rc.last.ce, .int .i64 x.rc.last.cr, .int .u64 x.rc.last.mem, .slice pa pn pc, .int .u64 x.view.num, .int .u64 x.view.ce, .int .i64 x.view.cr, .int .u64 x.view.mem, .int .u64 x.number, .int .i64 x.index, .int .i64 x.total], .int .i64 10])) ∧ Below w.heap.size w w' := by
  refine (parseItem_any ⟨#[5]⟩ w (by decide)).mono ?_
  rintro e w' ⟨⟨x, D, pa, pn, pc, rfl, _, _, _, _⟩, hb⟩
  rw [show itPE (bI ⟨#[5]⟩) = 10 from by decide +kernel]
  exact ⟨⟨x, D, pa, pn, pc, rfl⟩, hb⟩
theorem st1_wf : st1.Wf := ⟨by decide, by decide, ⟨by unfold Vw.Wf st1; decide, by intro v hv; cases hv⟩⟩
theorem aw_p2 (w : World) : Calls Try.prog 8 #[.agg #[.int .u64 5, .int .u32 2, .int .u64 0, .int .u64 0, .int .i64 0, .int .u64 7, .slice none 0 0]] w fun e w' => (∃ T : ByteArray, e = .returned (.tuple #[.string T, .int .i64 0]) ∧ Hid (T.size = 39) ∧ Hid (bI T = stB st1)) ∧ Below w.heap.size w w' := by
  refine (print_any st1 none 0 0 st1_wf w (Rd.mk_nil _ _)).mono ?_
  rintro e w' ⟨rfl, hb⟩
  have e0 : recE st1.rc = 0 := by decide
  have e1 : bI (prS st1) = stB st1 := by rw [prS, if_pos e0]; exact strOfNums_bI (stB_by _)
  have e2 : (prS st1).size = 39 := by rw [← bI_len, e1, stB_len]; rfl
  rw [e0]
  exact ⟨⟨_, rfl, e2, e1⟩, hb⟩
theorem aw_q2 (T : ByteArray) (h1 : T.size = 39) (h2 : bI T = stB st1) (w : World) : Calls Try.prog 14 #[.string T] w fun e w' => (∃ (pa : Option Addr) (pn pc : Nat), e = .returned (.tuple #[.agg #[.int .u64 5, .int .u32 2, .int .u64 0, .int .u64 0, .int .i64 0, .int .u64 7, .slice pa pn pc], .int .i64 0])) ∧ Below w.heap.size w w' := by
  refine (parse_any T w (by omega)).mono ?_
  rintro e w' ⟨⟨x, pa, pn, pc, rfl, h3, _, _⟩, hb⟩
  obtain ⟨e0, e1⟩ := st_back st1 st1_wf (by decide)
  rw [h2] at h3 ⊢
  rw [e0] at h3 ⊢
  have := h3.out rfl
  rw [e1] at this
  subst this
  exact ⟨⟨pa, pn, pc, rfl⟩, hb⟩
theorem Try.itB1 : Try.prog.built 34 [(0, .int .i64 1), (1, .string ⟨#[104, 105]⟩)] = some #[.int .i64 1, .string ⟨#[104, 105]⟩, .int .u32 0, .int .u64 0, .bool false, .bool false, .int .u64 0, .int .u64 0, .int .i64 0, .int .u64 0, .slice none 0 0, .int .u64 0, .int .u64 0, .int .i64 0, .int .u64 0, .int .u64 0, .int .i64 0, .int .i64 0] := by kernel_rfl
theorem Try.stB1 (x : Value) (a b c d : Value) : Try.prog.built 32 [(0, .int .u64 5), (1, .int .u32 2), (2, .agg #[a, b, c, d, x])] = some #[.int .u64 5, .int .u32 2, a, b, c, d, x] := by kernel_rfl
set_option maxHeartbeats 3200000 in
set_option maxRecDepth 100000 in
theorem awake_any (w : World) : Calls Try.prog 7 #[] w fun e w' => e = .returned (.bool true) ∧ Below w.heap.size w w' := by
  go_enter Try.func7, Try.ntmps7
  go_wp2_with (refine wpList_blk_build rfl #[(0, .const (.int .i64 1)), (1, .const (.string ⟨#[104, 105]⟩))] rfl Try.itB1 ?_)
  refine (aw_p1 _).mono ?_
  rintro e w1 ⟨rfl, E⟩
  go_wp2_with fail
  refine (aw_q1 _).mono ?_
  rintro e w2 ⟨⟨x, pa, pn, pc, rfl⟩, hb⟩
  replace E := belS E hb
  clear hb
  have hZ := BlkAt.new w2 34 zIT
  go_wp2_with (first
    | (refine wpList_blk_alloc rfl rfl Try.itZ w2.heap.size rfl ?_)
    | (refine wpList_blk_store rfl (.tmp 3) (.tmp 19) rfl rfl rfl hZ Try.itI rfl (by simp [Value.oneCell']) ?_; intro w3 hA hK hsz))
  have hsz' := Lib.hid hsz
  replace hK := alloc_store hK
  replace E := belS E hK
  have a1 : w3.cell? ⟨w2.heap.size, 1, none⟩ = some (.string ⟨#[104, 105]⟩) := hA.cell rfl
  clear hZ hsz hK hA
  refine (aw_first _).mono ?_
  rintro e w4 ⟨rfl, hb⟩
  replace E := belS E hb
  have n4 := Nat.lt_of_lt_of_le (show w2.heap.size < w3.heap.size by rw [hsz'.out]; simp) hb.size
  replace a1 := (hb.cell (p := ⟨w2.heap.size, 1, none⟩) (by rw [hsz'.out]; simp)).trans a1
  clear hb hsz'
  go_wp2_with (refine wpList_blk_build rfl #[(0, .const (.int .u64 5)), (1, .const (.int .u32 2)), (2, .tmp 22)] rfl (Try.stB1 _ _ _ _ _) ?_)
  refine (aw_p2 _).mono ?_
  rintro e w5 ⟨⟨T, rfl, hT1, hT2⟩, hb⟩
  replace E := belS E hb
  replace a1 := (hb.cell (p := ⟨w2.heap.size, 1, none⟩) n4).trans a1
  replace n4 := Nat.lt_of_lt_of_le n4 hb.size
  clear hb
  go_wp2_with fail
  refine (aw_q2 T hT1.out hT2.out _).mono ?_
  rintro e w6 ⟨⟨qa, qn, qc, rfl⟩, hb⟩
  replace E := belS E hb
  replace a1 := (hb.cell (p := ⟨w2.heap.size, 1, none⟩) n4).trans a1
  replace n4 := Nat.lt_of_lt_of_le n4 hb.size
  clear hb
  have hZ := BlkAt.new w6 32 zST
  go_wp2_with (first
    | (refine wpList_blk_alloc rfl rfl Try.stZ w6.heap.size rfl ?_)
    | (refine wpList_blk_store rfl (.tmp 7) (.tmp 30) rfl rfl rfl hZ Try.stI rfl (by simp [Value.oneCell']) ?_; intro w7 hA hK hsz))
  have n7 : w6.heap.size < w7.heap.size := by rw [hsz]; simp
  replace hK := alloc_store hK
  replace E := belS E hK
  replace a1 := (hK.cell (p := ⟨w2.heap.size, 1, none⟩) n4).trans a1
  replace n4 := Nat.lt_of_lt_of_le n4 hK.size
  have b0 : w7.cell? ⟨w6.heap.size, 0, none⟩ = some (.int .u64 5) := hA.cell rfl
  have b5 : w7.cell? ⟨w6.heap.size, 5, none⟩ = some (.int .u64 7) := hA.cell rfl
  clear hZ hsz hK hA
  refine (aw_q3 _).mono ?_
  rintro e w8 ⟨⟨y, D, qa, qn, qc, rfl⟩, hb⟩
  replace E := belS E hb
  replace a1 := (hb.cell (p := ⟨w2.heap.size, 1, none⟩) n4).trans a1
  replace n4 := Nat.lt_of_lt_of_le n4 hb.size
  replace b0 := (hb.cell (p := ⟨w6.heap.size, 0, none⟩) n7).trans b0
  replace b5 := (hb.cell (p := ⟨w6.heap.size, 5, none⟩) n7).trans b5
  replace n7 := Nat.lt_of_lt_of_le n7 hb.size
  clear hb
  have hZ := BlkAt.new w8 34 zIT
  have hT : (T.size : Int) = 39 := by have := hT1.out; omega
  go_wp2_with (first
    | (refine wpList_blk_alloc rfl rfl Try.itZ w8.heap.size rfl ?_)
    | (refine wpList_blk_store rfl (.tmp 9) (.tmp 34) rfl rfl rfl hZ Try.itI rfl (by simp [Value.oneCell']) ?_; intro w9 hA hK hsz; replace hK := alloc_store hK; replace E := belS E hK; replace a1 := (hK.cell (p := ⟨w2.heap.size, 1, none⟩) n4).trans a1; replace b0 := (hK.cell (p := ⟨w6.heap.size, 0, none⟩) n7).trans b0; replace b5 := (hK.cell (p := ⟨w6.heap.size, 5, none⟩) n7).trans b5; clear hZ hsz hA hK))
  go_ret
  exact ⟨rfl, E⟩
end Go.Proofs.Ytdfnpaaejjediaa
