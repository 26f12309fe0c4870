/- text: the reference's Clean (written by gen_tzf.py) -/
import Derived.Test.YtpkknhhohbobaaaDoorTxtZe
namespace Go.Proofs.YtpkknhhohbobaaaDoor
set_option linter.unusedSimpArgs false
set_option linter.unusedVariables false
open Go.RowKit Go.Sort
/-- What Clean answers: the clean event, its rows as they were. -/
def PCl (x : TEv) (w : World) (e : Ending) (w' : World) : Prop := ∃ ea en ec fa fn fc, e = .returned (.agg (evC (cleanE x) ea en ec fa fn fc)) ∧ Rd w' 1 ea en ec (c32 (cleanE x).m.deps) ∧ Rd w' 2 fa fn fc ((cleanE x).names.flatMap nmC) ∧ Below w.heap.size w w'
theorem cleanE_out {x : TEv} (h : x.kind < 1 ∨ 12 < x.kind) : cleanE x = begE x.kind x.proc := by
  unfold cleanE
  have : rowL x.kind.toNat = [] := by
    rcases h with h | h
    · rw [show x.kind.toNat = 0 from by omega]; rfl
    · unfold rowL
      split <;> first | rfl | omega
  rw [this]
  rfl
set_option maxHeartbeats 3200000 in
set_option maxRecDepth 100000 in
theorem rclean_any (x : TEv) (da : Option Addr) (dn dc : Nat) (na : Option Addr) (nn nc : Nat) (w : World) (h1 : Rd w 1 da dn dc (c32 x.m.deps)) (h2 : Rd w 2 na nn nc (x.names.flatMap nmC)) :
    Calls Tryd.prog 12 #[.agg (evC x da dn dc na nn nc)] w (PCl x w) := by
  have hb1 := alloc_below w (.cells (evC x da dn dc na nn nc) 33)
  obtain ⟨w1, hw1⟩ : ∃ z, z = w.alloc (.cells (evC x da dn dc na nn nc) 33) := ⟨_, rfl⟩
  have hA1 : BlkAt w1 w.heap.size 33 (evC x da dn dc na nn nc) := by rw [hw1]; exact BlkAt.new _ _ _
  have hz1 : w1.heap.size = w.heap.size + 1 := by rw [hw1]; simp
  rw [← hw1] at hb1
  have hb2 := alloc_below w1 (.cells #[.int .i64 0, .int .i64 0, .int .u64 0, .int .i64 0, .int .u64 0, .int .i64 0, .int .u64 0, .int .i64 0, .int .u32 0, .int .u64 0, .int .i64 0, .slice none 0 0, .string ⟨#[]⟩, .int .u64 0, .int .u64 0, .int .i64 0, .int .u64 0, .slice none 0 0, .string ⟨#[]⟩] 33)
  obtain ⟨w2, hw2⟩ : ∃ z, z = w1.alloc (.cells #[.int .i64 0, .int .i64 0, .int .u64 0, .int .i64 0, .int .u64 0, .int .i64 0, .int .u64 0, .int .i64 0, .int .u32 0, .int .u64 0, .int .i64 0, .slice none 0 0, .string ⟨#[]⟩, .int .u64 0, .int .u64 0, .int .i64 0, .int .u64 0, .slice none 0 0, .string ⟨#[]⟩] 33) := ⟨_, rfl⟩
  have hR2 : BlkAt w2 w1.heap.size 33 #[.int .i64 0, .int .i64 0, .int .u64 0, .int .i64 0, .int .u64 0, .int .i64 0, .int .u64 0, .int .i64 0, .int .u32 0, .int .u64 0, .int .i64 0, .slice none 0 0, .string ⟨#[]⟩, .int .u64 0, .int .u64 0, .int .i64 0, .int .u64 0, .slice none 0 0, .string ⟨#[]⟩] := by rw [hw2]; exact BlkAt.new _ _ _
  have hz2 : w2.heap.size = w1.heap.size + 1 := by rw [hw2]; simp
  rw [← hw2] at hb2
  have hA2 := hA1.below hb2 hA1.lt
  have hB2 := Lib.hid (belS hb1 hb2)
  obtain ⟨xa, hxa⟩ : ∃ z, z = w.heap.size := ⟨_, rfl⟩
  obtain ⟨rb, hrb⟩ : ∃ z, z = w1.heap.size := ⟨_, rfl⟩
  rw [← hxa] at hA2
  rw [← hrb] at hR2
  have a0 : w2.cell? ⟨xa, 0, none⟩ = some (.int .i64 x.kind) := hA2.cell rfl
  have a1 : w2.cell? ⟨xa, 1, none⟩ = some (.int .i64 x.proc) := hA2.cell rfl
  have hN2 := BlkAt.new w2 33 #[.int .i64 0, .int .i64 0, .int .u64 0, .int .i64 0, .int .u64 0, .int .i64 0, .int .u64 0, .int .i64 0, .int .u32 0, .int .u64 0, .int .i64 0, .slice none 0 0, .string ⟨#[]⟩, .int .u64 0, .int .u64 0, .int .i64 0, .int .u64 0, .slice none 0 0, .string ⟨#[]⟩]
  have hb3 := alloc_below w2 (.cells #[.int .i64 0, .int .i64 0, .int .u64 0, .int .i64 0, .int .u64 0, .int .i64 0, .int .u64 0, .int .i64 0, .int .u32 0, .int .u64 0, .int .i64 0, .slice none 0 0, .string ⟨#[]⟩, .int .u64 0, .int .u64 0, .int .i64 0, .int .u64 0, .slice none 0 0, .string ⟨#[]⟩] 33)
  have hA2' := Lib.hid hA2
  have hR2' := Lib.hid hR2
  obtain ⟨yb, hyb⟩ : ∃ z, z = w2.heap.size := ⟨_, rfl⟩
  have hord : xa < rb ∧ rb < yb ∧ w.heap.size ≤ xa := by omega
  obtain ⟨cA, hcA⟩ : ∃ z, z = evC x da dn dc na nn nc := ⟨_, rfl⟩
  rw [← hcA] at hw1 ⊢
  replace hcA := Lib.hid hcA
  replace hw1 := Lib.hid hw1
  replace hw2 := Lib.hid hw2
  replace hxa := Lib.hid hxa
  replace hrb := Lib.hid hrb
  replace hyb := Lib.hid hyb
  replace h1 := Lib.hid h1
  replace h2 := Lib.hid h2
  obtain ⟨cB, hcB⟩ : ∃ z, z = evC (begE x.kind x.proc) none 0 0 none 0 0 := ⟨_, rfl⟩
  have hIB : (Tryd.prog.info? 33).map (·.size) = some cB.size := by rw [hcB]; exact Tryd.evI
  have hB1c : cB.all (·.oneCell') = true := by rw [hcB]; exact evC_one _ _ _ _ _ _ _
  have hB19 : 0 + cB.size ≤ 19 := by rw [hcB, evC_size]; decide
  have hBset : setArr #[.int .i64 0, .int .i64 0, .int .u64 0, .int .i64 0, .int .u64 0, .int .i64 0, .int .u64 0, .int .i64 0, .int .u32 0, .int .u64 0, .int .i64 0, .slice none 0 0, .string ⟨#[]⟩, .int .u64 0, .int .u64 0, .int .i64 0, .int .u64 0, .slice none 0 0, .string ⟨#[]⟩] 0 cB.toList = cB := by rw [hcB]; exact evC_set _ _ _ _ _ _ _
  have hXset : setArr #[.int .i64 0, .int .i64 0, .int .u64 0, .int .i64 0, .int .u64 0, .int .i64 0, .int .u64 0, .int .i64 0, .int .u32 0, .int .u64 0, .int .i64 0, .slice none 0 0, .string ⟨#[]⟩, .int .u64 0, .int .u64 0, .int .i64 0, .int .u64 0, .slice none 0 0, .string ⟨#[]⟩] 0 (#[.int .i64 x.kind, .int .i64 x.proc, .int .u64 0, .int .i64 0, .int .u64 0, .int .i64 0, .int .u64 0, .int .i64 0, .int .u32 0, .int .u64 0, .int .i64 0, .slice none 0 0, .string ⟨#[]⟩, .int .u64 0, .int .u64 0, .int .i64 0, .int .u64 0, .slice none 0 0, .string ⟨#[]⟩]).toList = cB := by rw [hcB]; kernel_rfl
  have hIX : (Tryd.prog.info? 33).map (·.size) = some (#[.int .i64 x.kind, .int .i64 x.proc, .int .u64 0, .int .i64 0, .int .u64 0, .int .i64 0, .int .u64 0, .int .i64 0, .int .u32 0, .int .u64 0, .int .i64 0, .slice none 0 0, .string ⟨#[]⟩, .int .u64 0, .int .u64 0, .int .i64 0, .int .u64 0, .slice none 0 0, .string ⟨#[]⟩] : Array Value).size := by show _ = some 19; kernel_rfl
  replace hcB := Lib.hid hcB
  replace hXset := Lib.hid hXset
  clear hA1 hA2 hR2 hb1 hb2 hz1 hz2
  have hRow : ∀ W : World, Rd W 1 none 0 0 (c32 ([] : List Nat)) ∧ Rd W 2 none 0 0 (([] : List TNm).flatMap nmC) := fun W => ⟨⟨⟨rfl, Nat.le_refl 0, Nat.zero_le _, (fun _ => ⟨rfl, rfl⟩)⟩, .inl rfl⟩, ⟨⟨rfl, Nat.le_refl 0, Nat.zero_le _, (fun _ => ⟨rfl, rfl⟩)⟩, .inl rfl⟩⟩
  go_enter Tryd.func12, Tryd.ntmps12
  go_upto_region 1 with (first
    | (refine wpList_blk_box rfl (.tmp 0) rfl rfl xa hxa.out.symm ?_; rw [← hw1.out]))
  rw [← hw2.out, ← hrb.out]
  go_upto_region 2 with (first
    | (refine wpList_blk_build rfl #[(0, .tmp 7), (1, .tmp 9)] rfl (cs := #[.int .i64 x.kind, .int .i64 x.proc, .int .u64 0, .int .i64 0, .int .u64 0, .int .i64 0, .int .u64 0, .int .i64 0, .int .u32 0, .int .u64 0, .int .i64 0, .slice none 0 0, .string ⟨#[]⟩, .int .u64 0, .int .u64 0, .int .i64 0, .int .u64 0, .slice none 0 0, .string ⟨#[]⟩]) (by kernel_rfl) ?_)
    | (refine wpList_blk_put (cs := #[.int .i64 x.kind, .int .i64 x.proc, .int .u64 0, .int .i64 0, .int .u64 0, .int .i64 0, .int .u64 0, .int .i64 0, .int .u32 0, .int .u64 0, .int .i64 0, .slice none 0 0, .string ⟨#[]⟩, .int .u64 0, .int .u64 0, .int .i64 0, .int .u64 0, .slice none 0 0, .string ⟨#[]⟩]) rfl (.tmp 3) (.tmp 10) rfl rfl rfl hN2 hIX (by show 0 + 19 ≤ 19; decide) (by simp [Value.oneCell']) ?_; intro w3 hY3 hK3 hs3; rw [hXset.out] at hY3))
  rw [← hyb.out] at hY3 hK3 ⊢
  have hA3 := Lib.hid (hK3.blk (hA2'.out.below hb3 hA2'.out.lt) (by omega))
  have hR3 := Lib.hid (hK3.blk (hR2'.out.below hb3 hR2'.out.lt) (by omega))
  have hB3 := Lib.hid (belS hB2.out (Kp.below hb3 hK3 (by have := hyb.out; omega) hb3.size))
  have e0 : w3.cell? ⟨xa, 0, none⟩ = some (.int .i64 x.kind) := hA3.out.cell rfl
  clear hK3 hs3 hb3 hN2 hA2' hR2' hB2 a0 a1 hXset hIX
  by_cases hk : x.kind < 1 ∨ 12 < x.kind
  · have hz := Lib.hid (cleanE_out hk)
    have hfin : ∀ (w9 : World), BlkAt w9 rb 33 cB → Kp rb w3 w9 → PCl x w (.returned (.agg cB)) w9 := fun w9 _ hK9 => by
      refine ⟨none, 0, 0, none, 0, 0, by rw [hz.out, hcB.out], ?_, ?_, Kp.below hB3.out hK9 (by omega) hB3.out.size⟩
      · rw [hz.out]; exact (hRow _).1
      · rw [hz.out]; exact (hRow _).2
    replace hfin := Lib.hid hfin
    by_cases hk1 : x.kind < 1
    · clear hk
      go_wp2_with (first
        | (refine wpList_blk_load rfl (.tmp 3) rfl Tryd.underlying33 rfl rfl hY3 hIB ?_)
        | (refine wpList_blk_put (cs := cB) rfl (.tmp 2) (.tmp 19) rfl rfl rfl hR3.out hIB hB19 hB1c ?_; intro w9 hX9 hK9 hs9; rw [hBset] at hX9))
      refine bodyPost_ret (results_cell_row rfl _ _ rb 33 _ (0, 0) _ rfl hX9 Tryd.underlying33 rfl hIB) rfl ?_
      exact hfin.out w9 hX9 hK9
    · have hk2 : 12 < x.kind := by omega
      clear hk
      go_wp2_with (first
        | (refine wpList_blk_load rfl (.tmp 3) rfl Tryd.underlying33 rfl rfl hY3 hIB ?_)
        | (refine wpList_blk_put (cs := cB) rfl (.tmp 2) (.tmp 19) rfl rfl rfl hR3.out hIB hB19 hB1c ?_; intro w9 hX9 hK9 hs9; rw [hBset] at hX9))
      refine bodyPost_ret (results_cell_row rfl _ _ rb 33 _ (0, 0) _ rfl hX9 Tryd.underlying33 rfl hIB) rfl ?_
      exact hfin.out w9 hX9 hK9
  · obtain ⟨k, hkk⟩ : ∃ k : Nat, x.kind = k := ⟨x.kind.toNat, by omega⟩
    have hk1 : 1 ≤ k := by omega
    have hk12 : k ≤ 12 := by omega
    have hkI1 : ¬ (k : Int) < 1 := by omega
    have hkI2 : ¬ (12 : Int) < k := by omega
    have hkt : x.kind.toNat = k := by omega
    have hcl := Lib.hid (show cleanE x = (rowL k).foldl (fun y f => setF f x y) (begE x.kind x.proc) from by unfold cleanE; rw [hkt])
    rw [hkk] at e0
    have HR := Lib.hid (rrow_any k hk1 hk12 w3)
    clear hk hkt
    go_wp2_with fail
    refine HR.out.mono ?_
    rintro e w6 ⟨rfl, hw⟩
    rw [hw]
    clear hw w6
    have hrs := mkB_size (rowW k)
    have hrlen : (rowW k).length = (rowL k).length := List.length_map ..
    have hrl : (rowL k).length ≤ 3 := rowL_len ⟨k, by omega⟩
    have hI0 := Lib.hid (fun (i : Nat) (h : i < (rowL k).length) (W : World) => idx_mkB (rowW k) i (ltB (rowL k)[i]) (by unfold rowW; rw [List.getElem?_map, List.getElem?_eq_getElem h]; rfl) .i64 W)
    obtain ⟨S, hS⟩ : ∃ z, z = mkB (rowW k) := ⟨_, rfl⟩
    rw [← hS] at hrs hI0 ⊢
    rw [hrlen] at hrs
    replace hS := Lib.hid hS
    obtain ⟨L, hLq⟩ : ∃ z, z = rowL k := ⟨_, rfl⟩
    rw [← hLq] at hrs hI0 hcl hrl
    replace hLq := Lib.hid hLq
    replace hkk := Lib.hid hkk
    have hY0 := Lib.hid hY3
    have hcC := Tryd.cfL x.conf.ep x.conf.rp
    have hcN := Tryd.cfL x.new.ep x.new.rp
    have hcM := Tryd.mgL (x := x) (da := da) (dn := dn) (dc := dc)
    have hcV := Tryd.vwL x.num x.vconf.ep x.vconf.rp x.vmem
    have hIc : (Tryd.prog.info? 24).map (·.size) = some 2 := by kernel_rfl
    have hIm : (Tryd.prog.info? 28).map (·.size) = some 6 := by kernel_rfl
    have hIv : (Tryd.prog.info? 30).map (·.size) = some 4 := by kernel_rfl
    clear HR hrlen e0 hY3 hIB hB1c hB19 hBset
    go_wp2
    go_loopw [5] (fun iv wr => ∃ (i : Nat) (y : TEv) (ea : Option Addr) (en ec : Nat) (fa : Option Addr) (fn fc : Nat), i ≤ L.length ∧ iv = .int .i64 i ∧ Hid (BlkAt wr yb 33 (evC y ea en ec fa fn fc)) ∧ Hid (Rd w 1 ea en ec (c32 y.m.deps)) ∧ Hid (Rd w 2 fa fn fc (y.names.flatMap nmC)) ∧ Hid (y = (L.take i).foldl (fun y f => setF f x y) (begE x.kind x.proc)) ∧ Hid (Kp yb w3 wr)) (fun iv _ => L.length - (RowKit.intOf iv).toNat)
    case atStart => exact ⟨0, begE x.kind x.proc, none, 0, 0, none, 0, 0, Nat.zero_le _, rfl, Lib.hid (by rw [← hcB.out]; exact hY0.out), Lib.hid (hRow _).1, Lib.hid (hRow _).2, Lib.hid rfl, Lib.hid (Kp.refl _ _)⟩
    case round =>
      clear hY0
      obtain ⟨i, y, ea, en, ec, fa, fn, fc, hi, rfl, hY, hyd, hyn, hyf, hk⟩ := hrel
      obtain ⟨w6, rfl⟩ : ∃ z, z = wr := ⟨_, rfl⟩
      have hA6 := Lib.hid (hk.out.blk hA3.out (by omega))
      by_cases hin : i < L.length
      · have hiI : (i : Int) < S.size := by rw [hrs]; omega
        have hI := hI0.out i hin
        have hts := Lib.hid (show (L.take (i + 1)).foldl (fun y f => setF f x y) (begE x.kind x.proc) = setF L[i] x y from by rw [List.take_succ_eq_append_getElem hin, List.foldl_append, ← hyf.out]; rfl)
        generalize L[i] = f at *
        have hgo := Lib.hid (show i + 1 ≤ L.length from hin)
        cases f with
        | c =>
          have r6 := ev_conf hA6.out
          go_wp2_with (first
            | (refine wpList_load_mid rfl _ (.tmp 34) rfl xa 2 rfl [.int .u64 x.conf.ep, .int .i64 x.conf.rp] _ r6 Tryd.underlying24 rfl hcC ?_)
            | (refine wpList_blk_put (cs := #[.int .u64 x.conf.ep, .int .i64 x.conf.rp]) rfl (.tmp 36) (.tmp 35) rfl rfl rfl hY.out (show _ = some 2 from hIc) (by show 2 + 2 ≤ 19; decide) (by simp [Value.oneCell']) ?_; intro w7 hX hK hs; have hY7 : Hid (BlkAt w7 yb 33 (evC (setF .c x y) ea en ec fa fn fc)) := Lib.hid (by have h := hX; rw [show setArr (evC y ea en ec fa fn fc) 2 (#[.int .u64 x.conf.ep, .int .i64 x.conf.rp] : Array Value).toList = evC (setF .c x y) ea en ec fa fn fc from by kernel_rfl] at h; exact h); have hk7 := Lib.hid (hk.out.trans hK); clear hX hK hs r6))
          go_roundw
          case rel => exact ⟨i + 1, setF .c x y, ea, en, ec, fa, fn, fc, hgo.out, by go_num, hY7, hyd, hyn, Lib.hid hts.out.symm, hk7⟩
          case measure => simp [RowKit.intOf]; omega
        | n =>
          have r6 := ev_new hA6.out
          go_wp2_with (first
            | (refine wpList_load_mid rfl _ (.tmp 39) rfl xa 4 rfl [.int .u64 x.new.ep, .int .i64 x.new.rp] _ r6 Tryd.underlying24 rfl hcN ?_)
            | (refine wpList_blk_put (cs := #[.int .u64 x.new.ep, .int .i64 x.new.rp]) rfl (.tmp 41) (.tmp 40) rfl rfl rfl hY.out (show _ = some 2 from hIc) (by show 4 + 2 ≤ 19; decide) (by simp [Value.oneCell']) ?_; intro w7 hX hK hs; have hY7 : Hid (BlkAt w7 yb 33 (evC (setF .n x y) ea en ec fa fn fc)) := Lib.hid (by have h := hX; rw [show setArr (evC y ea en ec fa fn fc) 4 (#[.int .u64 x.new.ep, .int .i64 x.new.rp] : Array Value).toList = evC (setF .n x y) ea en ec fa fn fc from by kernel_rfl] at h; exact h); have hk7 := Lib.hid (hk.out.trans hK); clear hX hK hs r6))
          go_roundw
          case rel => exact ⟨i + 1, setF .n x y, ea, en, ec, fa, fn, fc, hgo.out, by go_num, hY7, hyd, hyn, Lib.hid hts.out.symm, hk7⟩
          case measure => simp [RowKit.intOf]; omega
        | s =>
          have c6 : w6.cell? ⟨xa, 6, none⟩ = some (.int .u64 x.mem) := hA6.out.cell rfl
          have d6 : w6.cell? ⟨yb, 6, none⟩ = some (.int .u64 y.mem) := hY.out.cell rfl
          have f6 := hY.out.fz 6
          have hY7 : Hid (BlkAt (w6.setCell ⟨yb, 6, none⟩ (.int .u64 x.mem)) yb 33 (evC (setF .s x y) ea en ec fa fn fc)) := Lib.hid (by have h := hY.out.set 6 (.int .u64 x.mem); rw [show (evC y ea en ec fa fn fc).setIfInBounds 6 (.int .u64 x.mem) = evC (setF .s x y) ea en ec fa fn fc from by kernel_rfl] at h; exact h)
          have hk7 : Hid (Kp yb w3 (w6.setCell ⟨yb, 6, none⟩ (.int .u64 x.mem))) := Lib.hid (hk.out.setCell ⟨yb, 6, none⟩ rfl _)
          go_wp2
          go_roundw
          case rel => exact ⟨i + 1, setF .s x y, ea, en, ec, fa, fn, fc, hgo.out, by go_num, hY7, hyd, hyn, Lib.hid hts.out.symm, hk7⟩
          case measure => simp [RowKit.intOf]; omega
        | m =>
          have r6 := ev_msg hA6.out
          go_wp2_with (first
            | (refine wpList_load_mid rfl _ (.tmp 49) rfl xa 7 rfl [.int .i64 x.m.frm, .int .u32 x.m.seq, .int .u64 x.m.stamp, .int .i64 x.m.svc, .slice da dn dc, .string (mkB x.m.pay)] _ r6 Tryd.underlying28 rfl hcM ?_)
            | (refine wpList_blk_put (cs := #[.int .i64 x.m.frm, .int .u32 x.m.seq, .int .u64 x.m.stamp, .int .i64 x.m.svc, .slice da dn dc, .string (mkB x.m.pay)]) rfl (.tmp 51) (.tmp 50) rfl rfl rfl hY.out (show _ = some 6 from hIm) (by show 7 + 6 ≤ 19; decide) (by simp [Value.oneCell']) ?_; intro w7 hX hK hs; have hY7 : Hid (BlkAt w7 yb 33 (evC (setF .m x y) da dn dc fa fn fc)) := Lib.hid (by have h := hX; rw [show setArr (evC y ea en ec fa fn fc) 7 (#[.int .i64 x.m.frm, .int .u32 x.m.seq, .int .u64 x.m.stamp, .int .i64 x.m.svc, .slice da dn dc, .string (mkB x.m.pay)] : Array Value).toList = evC (setF .m x y) da dn dc fa fn fc from by kernel_rfl] at h; exact h); have hk7 := Lib.hid (hk.out.trans hK); clear hX hK hs r6))
          go_roundw
          case rel => exact ⟨i + 1, setF .m x y, da, dn, dc, fa, fn, fc, hgo.out, by go_num, hY7, h1, hyn, Lib.hid hts.out.symm, hk7⟩
          case measure => simp [RowKit.intOf]; omega
        | v =>
          have r6 := ev_view hA6.out
          go_wp2_with (first
            | (refine wpList_load_mid rfl _ (.tmp 54) rfl xa 13 rfl [.int .u64 x.num, .int .u64 x.vconf.ep, .int .i64 x.vconf.rp, .int .u64 x.vmem] _ r6 Tryd.underlying30 rfl hcV ?_)
            | (refine wpList_blk_put (cs := #[.int .u64 x.num, .int .u64 x.vconf.ep, .int .i64 x.vconf.rp, .int .u64 x.vmem]) rfl (.tmp 56) (.tmp 55) rfl rfl rfl hY.out (show _ = some 4 from hIv) (by show 13 + 4 ≤ 19; decide) (by simp [Value.oneCell']) ?_; intro w7 hX hK hs; have hY7 : Hid (BlkAt w7 yb 33 (evC (setF .v x y) ea en ec fa fn fc)) := Lib.hid (by have h := hX; rw [show setArr (evC y ea en ec fa fn fc) 13 (#[.int .u64 x.num, .int .u64 x.vconf.ep, .int .i64 x.vconf.rp, .int .u64 x.vmem] : Array Value).toList = evC (setF .v x y) ea en ec fa fn fc from by kernel_rfl] at h; exact h); have hk7 := Lib.hid (hk.out.trans hK); clear hX hK hs r6))
          go_roundw
          case rel => exact ⟨i + 1, setF .v x y, ea, en, ec, fa, fn, fc, hgo.out, by go_num, hY7, hyd, hyn, Lib.hid hts.out.symm, hk7⟩
          case measure => simp [RowKit.intOf]; omega
        | a =>
          have c6 : w6.cell? ⟨xa, 17, none⟩ = some (.slice na nn nc) := hA6.out.cell rfl
          have d6 : w6.cell? ⟨yb, 17, none⟩ = some (.slice fa fn fc) := hY.out.cell rfl
          have f6 := hY.out.fz 17
          have hY7 : Hid (BlkAt (w6.setCell ⟨yb, 17, none⟩ (.slice na nn nc)) yb 33 (evC (setF .a x y) ea en ec na nn nc)) := Lib.hid (by have h := hY.out.set 17 (.slice na nn nc); rw [show (evC y ea en ec fa fn fc).setIfInBounds 17 (.slice na nn nc) = evC (setF .a x y) ea en ec na nn nc from by kernel_rfl] at h; exact h)
          have hk7 : Hid (Kp yb w3 (w6.setCell ⟨yb, 17, none⟩ (.slice na nn nc))) := Lib.hid (hk.out.setCell ⟨yb, 17, none⟩ rfl _)
          go_wp2
          go_roundw
          case rel => exact ⟨i + 1, setF .a x y, ea, en, ec, na, nn, nc, hgo.out, by go_num, hY7, hyd, h2, Lib.hid hts.out.symm, hk7⟩
          case measure => simp [RowKit.intOf]; omega
        | o =>
          have c6 : w6.cell? ⟨xa, 17, none⟩ = some (.slice na nn nc) := hA6.out.cell rfl
          have d6 : w6.cell? ⟨yb, 17, none⟩ = some (.slice fa fn fc) := hY.out.cell rfl
          have f6 := hY.out.fz 17
          have hY7 : Hid (BlkAt (w6.setCell ⟨yb, 17, none⟩ (.slice na nn nc)) yb 33 (evC (setF .o x y) ea en ec na nn nc)) := Lib.hid (by have h := hY.out.set 17 (.slice na nn nc); rw [show (evC y ea en ec fa fn fc).setIfInBounds 17 (.slice na nn nc) = evC (setF .o x y) ea en ec na nn nc from by kernel_rfl] at h; exact h)
          have hk7 : Hid (Kp yb w3 (w6.setCell ⟨yb, 17, none⟩ (.slice na nn nc))) := Lib.hid (hk.out.setCell ⟨yb, 17, none⟩ rfl _)
          go_wp2
          go_roundw
          case rel => exact ⟨i + 1, setF .o x y, ea, en, ec, na, nn, nc, hgo.out, by go_num, hY7, hyd, h2, Lib.hid hts.out.symm, hk7⟩
          case measure => simp [RowKit.intOf]; omega
        | b =>
          have c6 : w6.cell? ⟨xa, 18, none⟩ = some (.string (mkB x.state)) := hA6.out.cell rfl
          have d6 : w6.cell? ⟨yb, 18, none⟩ = some (.string (mkB y.state)) := hY.out.cell rfl
          have f6 := hY.out.fz 18
          have hY7 : Hid (BlkAt (w6.setCell ⟨yb, 18, none⟩ (.string (mkB x.state))) yb 33 (evC (setF .b x y) ea en ec fa fn fc)) := Lib.hid (by have h := hY.out.set 18 (.string (mkB x.state)); rw [show (evC y ea en ec fa fn fc).setIfInBounds 18 (.string (mkB x.state)) = evC (setF .b x y) ea en ec fa fn fc from by kernel_rfl] at h; exact h)
          have hk7 : Hid (Kp yb w3 (w6.setCell ⟨yb, 18, none⟩ (.string (mkB x.state)))) := Lib.hid (hk.out.setCell ⟨yb, 18, none⟩ rfl _)
          go_wp2
          go_roundw
          case rel => exact ⟨i + 1, setF .b x y, ea, en, ec, fa, fn, fc, hgo.out, by go_num, hY7, hyd, hyn, Lib.hid hts.out.symm, hk7⟩
          case measure => simp [RowKit.intOf]; omega
      · have hiI : ¬ (i : Int) < S.size := by rw [hrs]; omega
        have hz : Hid (y = cleanE x) := Lib.hid (by rw [hyf.out, hcl.out, List.take_of_length_le (by omega)])
        have hR6 := hk.out.blk hR3.out (by omega)
        obtain ⟨cs, hcs⟩ : ∃ z, z = evC y ea en ec fa fn fc := ⟨_, rfl⟩
        have hIE : (Tryd.prog.info? 33).map (·.size) = some cs.size := by rw [hcs]; exact Tryd.evI
        have h1c : cs.all (·.oneCell') = true := by rw [hcs]; exact evC_one _ _ _ _ _ _ _
        have h19 : 0 + cs.size ≤ 19 := by rw [hcs, evC_size]; decide
        have hset : setArr #[.int .i64 0, .int .i64 0, .int .u64 0, .int .i64 0, .int .u64 0, .int .i64 0, .int .u64 0, .int .i64 0, .int .u32 0, .int .u64 0, .int .i64 0, .slice none 0 0, .string ⟨#[]⟩, .int .u64 0, .int .u64 0, .int .i64 0, .int .u64 0, .slice none 0 0, .string ⟨#[]⟩] 0 cs.toList = cs := by rw [hcs]; exact evC_set _ _ _ _ _ _ _
        have hY6 := hY.out
        rw [← hcs] at hY6
        replace hcs := Lib.hid hcs
        go_wp2_with (first
          | (refine wpList_blk_load rfl (.tmp 3) rfl Tryd.underlying33 rfl rfl hY6 hIE ?_)
          | (refine wpList_blk_put (cs := cs) rfl (.tmp 2) (.tmp 68) rfl rfl rfl hR6 hIE h19 h1c ?_; intro w9 hX9 hK9 hs9; rw [hset] at hX9))
        refine bodyPost_ret (results_cell_row rfl _ _ rb 33 _ (0, 0) _ rfl hX9 Tryd.underlying33 rfl hIE) rfl ?_
        have hB9 := Kp.below (Kp.below hB3.out hk.out (by omega) hB3.out.size) hK9 (by omega) (Kp.below hB3.out hk.out (by omega) hB3.out.size).size
        refine ⟨ea, en, ec, fa, fn, fc, by rw [← hz.out, hcs.out], ?_, ?_, hB9⟩
        · rw [← hz.out]; exact hyd.out.below hB9 (Nat.le_refl _)
        · rw [← hz.out]; exact hyn.out.below hB9 (Nat.le_refl _)
end Go.Proofs.YtpkknhhohbobaaaDoor
