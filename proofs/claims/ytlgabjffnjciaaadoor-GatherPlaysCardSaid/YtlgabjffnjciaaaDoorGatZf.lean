/- gather: Exchanges, whose counts may be written -/
import Derived.Test.YtlgabjffnjciaaaDoorGatZe
namespace Go.Proofs.YtlgabjffnjciaaaDoor
set_option linter.unusedSimpArgs false
set_option linter.unusedVariables false
open Go.RowKit Go.Sort
theorem Unf.grown {w w' : World} {g : Nat} {row : Option Nat} (h : Unf w g) (hg : w.grownBy w' row) (hne : row ≠ some g) : Unf w' g := by
  obtain ⟨t, cs, h⟩ := h
  exact ⟨t, cs, (hg.block g h.lt (fun e => hne e.symm)).trans h⟩
/-- No count's block is frozen. -/
def UnfX (w : World) (xs : List Xc) : Prop := ∀ x ∈ xs, x.pn ≠ 0 → ∀ g off, x.pa = some ⟨g, off, none⟩ → Unf w g
theorem UnfX.below {w w' : World} {xs : List Xc} (h : UnfX w xs) (hb : Below w.heap.size w w') : UnfX w' xs := fun x hx hn g off e => (h x hx hn g off e).below hb
theorem UnfX.grown {w w' : World} {xs : List Xc} {row : Option Nat} (h : UnfX w xs) (hg : w.grownBy w' row) (hne : ∀ x ∈ xs, x.pn ≠ 0 → ∀ g off, x.pa = some ⟨g, off, none⟩ → row ≠ some g) : UnfX w' xs := fun x hx hn g off e => (h x hx hn g off e).grown hg (hne x hx hn g off e)
set_option maxHeartbeats 3200000 in
set_option maxRecDepth 100000 in
theorem exs_anyF (s : AtS) (b mb : Nat) (w : World) (hT : Tab w) (h : GatAt w b mb s) :
    Calls Tryd.prog 22 #[.pointer (some ⟨b, 0, none⟩)] w fun e w' => ∃ (a : Option Addr) (n c : Nat) (xs : List Xc), e = .returned (.slice a n c) ∧ ExRow w.heap.size w' (.slice a n c) n xs ∧ vX xs = exsV s.val ∧ UnfX w' xs ∧ n ≤ 64 ∧ Below w.heap.size w w' := by
  obtain ⟨c0, c1, c2, c3, c4⟩ := blk5 h.blk
  have hmm := h.ok.mem
  have HL := Lib.hid (list_any s.mem w hmm hT)
  have h0 := Lib.hid h
  have hc64 := cardN_le s.mem
  clear h
  go_enter Tryd.func22, Tryd.ntmps22
  go_wp2_with fail
  refine HL.out.mono ?_
  rintro e w2 ⟨v, rfl, hown, hb2⟩
  obtain ⟨la, lc, rfl, hrl⟩ := Rd.own hown
  have h2 := Lib.hid (h0.out.below hb2)
  have hlen := Lib.hid (memI_len s.mem)
  replace hrl := Lib.hid hrl
  have hb2' := Lib.hid hb2
  clear hown c0 c1 c2 c3 c4 HL hb2
  generalize hcn : cardN s.mem = cn at *
  clear hcn
  go_wp2
  go_loopw [3, 5, 6, 7, 14] (fun ov _ _ _ iv wr => ∃ (i m : Nat) (a : Option Addr) (c : Nat) (F : List Xc), i ≤ cn ∧ iv = .int .i64 i ∧ ov = .slice a m c ∧ m ≤ i ∧ Hid (ExRow w2.heap.size wr (.slice a m c) m F) ∧ Hid (UnfX wr F) ∧ Hid (vX F = ((memI s.mem).take i).filterMap (exF s.val)) ∧ Hid (Below w2.heap.size w2 wr)) (fun _ _ _ _ iv _ => cn - (RowKit.intOf iv).toNat)
  case atStart => exact ⟨0, 0, none, 0, [], Nat.zero_le _, rfl, rfl, Nat.le_refl _, Lib.hid ExRow.nil, Lib.hid (fun x hx => by cases hx), Lib.hid rfl, Lib.hid (Below.refl _ _)⟩
  case round =>
    obtain ⟨i, m, a, c, F, hi, rfl, rfl, hm, hF, hU, hvF, hbr⟩ := hrel
    obtain ⟨wo, rfl⟩ : ∃ z, z = wr := ⟨_, rfl⟩
    by_cases hin : i < cn
    · have hiI : (i : Int) < cn := by omega
      have hil : i < (memI s.mem).length := by rw [hlen.out]; exact hin
      obtain ⟨gl, ol, rfl, _⟩ := Rd.addr hrl.out (by omega)
      have hcell : wo.cell? ⟨gl, ol + i, none⟩ = some (.int .i64 (memI s.mem)[i]) := (Rd.below hrl.out hbr.out (Nat.le_refl _)).int1 i hil
      have hst := Lib.hid (filterMap_snoc (exF s.val) (memI s.mem) hil)
      rw [← hvF.out] at hst
      generalize (memI s.mem)[i] = p at *
      have hr := Lib.hid (h2.out.below hbr.out)
      obtain ⟨c0, c1, c2, c3, c4⟩ := blk5 hr.out.blk
      have hM := hr.out.map
      rcases get_cases s.xs p with ⟨hg, hf⟩ | ⟨x, hx, hg, hf⟩
      · have hz := Lib.hid (show vX F = ((memI s.mem).take (i + 1)).filterMap (exF s.val) from by rw [hst.out, show exF s.val p = none from hf]; simp)
        have hZ := BlkAt.new wo 43 #[.int .i64 0, .int .u64 0, .int .i64 0, .slice none 0 0, .int .u64 0, .int .i64 0]
        clear hst hf
        go_wp2_with (first
          | (refine wpList_map_lookup rfl (.tmp 22) (.tmp 23) rfl Tryd.underlying70 Tryd.underlying3 (Tryd.zeroX _) hM rfl rfl ?_; rw [hg]; simp only [Option.getD_none, Option.isSome_none])
          | (refine wpList_blk_alloc rfl rfl Tryd.exZ wo.heap.size rfl ?_)
          | (refine wpList_blk_store (cs := #[.int .i64 0, .int .u64 0, .int .i64 0, .slice none 0 0, .int .u64 0, .int .i64 0]) rfl (.tmp 6) (.tmp 25) rfl rfl rfl hZ (by kernel_rfl) rfl (by simp [Value.oneCell']) ?_; intro w4 hX4 hK4 hsz4))
        have hb4 := alloc_store hK4
        clear c0 c1 c2 c3 c4
        go_roundw
        case rel => exact ⟨i + 1, m, a, c, F, by omega, by go_num, rfl, by omega, Lib.hid (hF.out.below hb4), Lib.hid (hU.out.below hb4), hz, Lib.hid (belS hbr.out hb4)⟩
        case measure => simp [RowKit.intOf]; omega
      · have hz := Lib.hid (show vX F ++ [x.v] = ((memI s.mem).take (i + 1)).filterMap (exF s.val) from by rw [hst.out, show exF s.val p = some x.v from hf]; simp)
        have hZ := BlkAt.new wo 43 #[.int .i64 0, .int .u64 0, .int .i64 0, .slice none 0 0, .int .u64 0, .int .i64 0]
        have hin := Lib.hid (hr.out.inn x hx)
        have hsm := hr.out.ok.sm x hx
        clear hst hf
        go_upto_region 7 with (first
          | (refine wpList_map_lookup rfl (.tmp 22) (.tmp 23) rfl Tryd.underlying70 Tryd.underlying3 (Tryd.zeroX _) hM rfl rfl ?_; rw [hg]; simp only [Option.getD_some, Option.isSome_some])
          | (refine wpList_blk_alloc rfl rfl Tryd.exZ wo.heap.size rfl ?_)
          | (refine wpList_blk_store (cs := xcA x) rfl (.tmp 6) (.tmp 25) rfl rfl rfl hZ (Tryd.exI x) rfl (xcA_one x) ?_; intro w4 hX4 hK4 hsz4))
        have hb4 := alloc_store hK4
        have hin4 := hin.out.below hb4
        have hF4 := Lib.hid (hF.out.below hb4)
        have hU4 := Lib.hid (hU.out.below hb4)
        have hbr4 := Lib.hid (belS hbr.out hb4)
        have hi4 := Tryd.exI x
        clear c0 c1 c2 c3 c4 hM hZ hK4 hsz4 hr hF hU hbr hb4 hcell
        go_wp2_with (refine wpList_blk_load rfl (.tmp 6) rfl Tryd.underlying43 rfl rfl hX4 hi4 ?_)
        refine (own_anyF x w4 hin4 hsm).mono ?_
        rintro e w5 ⟨xa, xc, rfl, hx5, hnew, hb5⟩
        have hF5 := hF4.out.below hb5
        have hU5 : UnfX w5 (F ++ [⟨x.v, xa, x.pn, xc⟩]) := fun y hy hn g off e => by
          rcases List.mem_append.1 hy with hy | hy
          · exact hU4.out.below hb5 y hy hn g off e
          · obtain rfl := List.mem_singleton.1 hy; exact (hnew g off e).2
        have hbA6 := alloc_below w5 (.cells (xcA ⟨x.v, xa, x.pn, xc⟩) 43)
        have hlv := Rd.blk1 (w := w5) (e := 43) (cs := xcC ⟨x.v, xa, x.pn, xc⟩) (sz := 6) (b := w5.heap.size) rfl rfl
        have hF6 := hF5.below hbA6
        have hU6 := Lib.hid (hU5.below hbA6)
        clear hU5
        have hap6 : Ap (w5.alloc (.cells (xcA ⟨x.v, xa, x.pn, xc⟩) 43)) (.slice a m c) (.slice none 0 0) xa x.pn xc x.v.cnt := ⟨hx5.below hbA6, fun g off e _ => ⟨fun e2 => by have := (hF4.out.own.lt g e2).2; have := (hnew g off e).1; omega, (fun e2 => by cases e2)⟩⟩
        have hnw6 : ∀ g off, xa = some ⟨g, off, none⟩ → w2.heap.size ≤ g := fun g off e => by have := (hnew g off e).1; have := hbr4.out.size; omega
        have hsz6 : w2.heap.size ≤ (w5.alloc (.cells (xcA ⟨x.v, xa, x.pn, xc⟩) 43)).heap.size := by have := hbr4.out.size; have := hb5.size; simp; omega
        have hx1 := xcC_one [⟨x.v, xa, x.pn, xc⟩]
        simp only [List.flatMap_cons, List.flatMap_nil, List.append_nil] at hx1
        have hbr6 := Lib.hid (belS (belS hbr4.out hb5) hbA6)
        clear hnew hb5 hF5
        go_wp2_with (first
          | (refine wpList_buildSlice1 (cs := xcA ⟨x.v, xa, x.pn, xc⟩) rfl 38 43 (.tmp 30) rfl Tryd.exE (by decide) (by rfl) rfl ?_)
          | (at_builtin; refine wpList_append_apart Tryd.exE rfl (.tmp 28) (.tmp 31) rfl hF6.own rfl hlv (by decide) rfl hx1 (by unfold maxLen; omega) (by omega) hsz6 ?_; intro v7 w7 hown7 hg7 hloc7; obtain ⟨a7, c7, rfl, _⟩ := Rd.own hown7))
        have hF7 := Lib.hid (hF6.push (x := ⟨x.v, xa, x.pn, xc⟩) hap6 hnw6 hsm hown7 hg7 hloc7)
        have hU7 := Lib.hid (hU6.out.grown hg7 (fun y hy hn g off e => by
          rcases List.mem_append.1 hy with hy | hy
          · exact ((hF6.ap y hy).2 g off e hn).1
          · obtain rfl := List.mem_singleton.1 hy; exact (hap6.2 g off e hn).1))
        have hbr7 := Lib.hid (hbr6.out.grown hg7 hbr6.out.size (fun k hk => (hF6.own.lt k hk).1))
        have hz7 := Lib.hid (show vX (F ++ [⟨x.v, xa, x.pn, xc⟩]) = ((memI s.mem).take (i + 1)).filterMap (exF s.val) from by rw [← hz.out]; simp [vX])
        clear hown7 hg7 hloc7 hF6
        go_roundw
        case rel => exact ⟨i + 1, m + 1, a7, c7, _, by omega, by go_num, rfl, by omega, hF7, hU7, hz7, hbr7⟩
        case measure => simp [RowKit.intOf]; omega
    · obtain rfl : cn = i := by omega
      have hiI : (cn : Int) ≤ cn := by omega
      go_wp2
      go_ret
      refine ⟨_, _, _, F, rfl, hF.out.mono hb2'.out.size, ?_, hU.out, by omega, hb2'.out.trans (hbr.out.mono hb2'.out.size)⟩
      rw [hvF.out, List.take_of_length_le (by rw [hlen.out]; exact Nat.le_refl _), exsV_eq]
      rfl
theorem g_exsF {w : World} {b mb : Nat} {v : AtV} (hT : Tab w) (h : Gat w b mb v) : Calls Tryd.prog 22 #[.pointer (some ⟨b, 0, none⟩)] w fun e w' => ∃ (a : Option Addr) (n c : Nat) (xs : List Xc), e = .returned (.slice a n c) ∧ ExRow w.heap.size w' (.slice a n c) n xs ∧ vX xs = exsV v ∧ UnfX w' xs ∧ n ≤ 64 ∧ Below w.heap.size w w' := by
  obtain ⟨s, h1, rfl⟩ := h
  exact exs_anyF s b mb w hT h1
end Go.Proofs.YtlgabjffnjciaaaDoor
