/- log: what LogBack needs of Print and Parse -/
import Derived.Test.YtdfnpaaejjediaaLogS
import Derived.Test.YtdfnpaaejjediaaLogU
namespace Go.Proofs.Ytdfnpaaejjediaa
open Go.RowKit

theorem bI_prS {s : St} (h : recE s.rc = 0) : bI (prS s) = stB s := by rw [prS, if_pos h]; exact strOfNums_bI (stB_by _)
theorem bI_prI {x : It} (hd : ByL x.data) (h : itE x = 0) : bI (prI x) = itB x := by rw [prI, if_pos h]; exact strOfNums_bI (itB_by hd)
theorem prS_le (s : St) : (prS s).size ≤ 5000 := by
  unfold prS
  by_cases h : recE s.rc = 0
  · have := recE_len h
    rw [if_pos h, strOfNums_size (stB_by _), stB_len]
    omega
  · rw [if_neg h]; decide
theorem itB_le {x : It} (h : itE x = 0) : (itB x).length ≤ 1024 := by
  rcases itE_kind h with hk | hk | hk | hk
  · rw [itB1 hk, List.length_append, beL_len]
    unfold itE at h
    rw [if_neg (by omega), if_neg (by omega), if_neg (by omega), if_neg (by omega)] at h
    split at h
    · cases h
    · omega
  · have hr : recE x.rc = 0 := by
      unfold itE at h
      rwa [if_neg (by omega), if_pos hk] at h
    have := recE_len hr
    rw [itB2 hk]; simp only [List.length_append, beL_len, recB_len]; omega
  · rw [itB3 hk, List.length_append, beL_len, vwB_len]; omega
  · unfold itE at h
    rw [if_neg (by omega), if_neg (by omega), if_neg (by omega), if_pos hk] at h
    rw [itB4 hk]; simp only [List.length_append, beL_len]
    split at h
    · split at h
      · cases h
      · omega
    · cases h
theorem prI_le (x : It) (hd : ByL x.data) : (prI x).size ≤ 5000 := by
  unfold prI
  by_cases h : itE x = 0
  · have := itB_le h
    rw [if_pos h, strOfNums_size (itB_by hd)]
    omega
  · rw [if_neg h]; decide
theorem fS (t : ByteArray) (h : stE (bI t) = 0) : (stV (bI t)).Wf ∧ prS (stV (bI t)) = t ∧ recE (stV (bI t)).rc = 0 := by
  obtain ⟨h1, h2, h3⟩ := st_forth (bI_mem t) h
  exact ⟨h3, bI_inj2 (by rw [bI_prS h2, h1]), h2⟩
theorem it_wf {L : List Int} (hb : ByL L) (h : itPE L = 0) : (itPV L).Wf ∧ (itPV L).data.length ≤ L.length := by
  have hz : Vw.zero.Wf := vz_wf
  have hrz : (⟨.zero, []⟩ : Rc).Wf := ⟨hz, by intro v hv; cases hv⟩
  have hn : ByL [] := fun c hc => by cases hc
  have z4 : 0 < 4294967296 := by decide
  have z8 : 0 < 18446744073709551616 := by decide
  unfold itPE at h
  by_cases h1 : L.length < 1
  · rw [if_pos h1] at h; cases h
  rw [if_neg h1] at h
  by_cases h2 : nv L 0 1 < 1 ∨ 4 < nv L 0 1
  · rw [if_pos h2] at h; cases h
  rw [if_neg h2] at h
  by_cases h3 : 1024 < L.length
  · rw [if_pos h3] at h; cases h
  rw [if_neg h3] at h
  have hk : nv L 0 1 = 2 ∨ nv L 0 1 = 3 ∨ nv L 0 1 = 4 ∨ nv L 0 1 = 1 := by omega
  have l4 := nv_lt hb 1 4
  have l8 := nv_lt hb 5 8
  have m8 := nv_lt hb 1 8
  have n4 := nv_nonneg hb 1 4
  have n8 := nv_nonneg hb 5 8
  have k8 := nv_nonneg hb 1 8
  rcases hk with hk | hk | hk | hk
  · rw [hk, if_pos rfl] at h
    by_cases g1 : L.length < 14
    · rw [if_pos g1] at h; cases h
    rw [if_neg g1] at h
    by_cases g2 : 3 < nv L 13 1
    · rw [if_pos g2] at h; cases h
    rw [if_neg g2] at h
    by_cases g3 : rcE L 14 = 0
    · obtain ⟨_, _, r3⟩ := recB_rcAt hb g3
      rw [pV_2 hk]
      refine ⟨⟨?_, ?_, r3, hz, z8, hn⟩, Nat.zero_le _⟩
      · show (nv L 1 4).toNat < _; omega
      · show (nv L 5 8).toNat < _; omega
    · rw [if_pos g3] at h; exact absurd h g3
  · rw [hk, if_neg (by decide), if_pos rfl] at h
    by_cases g1 : vwE L 1 = 0
    · obtain ⟨_, _, v3⟩ := vwB_vwAt hb g1
      rw [pV_3 hk]
      exact ⟨⟨z4, z8, hrz, v3, z8, hn⟩, Nat.zero_le _⟩
    · rw [if_pos g1] at h; exact absurd h g1
  · rw [pV_4 hk]
    refine ⟨⟨z4, z8, hrz, hz, ?_, fun c hc => hb c (List.mem_of_mem_drop hc)⟩, ?_⟩
    · show (nv L 1 8).toNat < _; omega
    · show (L.drop 13).length ≤ _; rw [List.length_drop]; omega
  · rw [pV_1 hk]
    refine ⟨⟨z4, z8, hrz, hz, z8, fun c hc => hb c (List.mem_of_mem_drop hc)⟩, ?_⟩
    show (L.drop 1).length ≤ _; rw [List.length_drop]; omega
theorem fI (t : ByteArray) (h : itPE (bI t) = 0) : (itPV (bI t)).Wf ∧ prI (itPV (bI t)) = t ∧ itE (itPV (bI t)) = 0 ∧ (itPV (bI t)).data.length ≤ t.size := by
  obtain ⟨h1, h2⟩ := it_forth (bI_mem t) h
  obtain ⟨h3, h4⟩ := it_wf (bI_mem t) h
  exact ⟨h3, bI_inj2 (by rw [bI_prI h3.2.2.2.2.2 h2, h1]), h2, by rwa [bI_len] at h4⟩
/-- Parse, of any bytes: what it returns is printed to these bytes. -/
theorem parse_fwd (t : ByteArray) (hz : t.size ≤ 5000) (w : World) : Calls Try.prog 14 #[.string t] w fun e w' => ∃ (x : St) (er : Int) (pa : Option Addr) (pn pc : Nat), e = .returned (.tuple #[.agg #[.int .u64 x.epoch, .int .u32 x.inc, .int .u64 x.rc.last.num, .int .u64 x.rc.last.ce, .int .i64 x.rc.last.cr, .int .u64 x.rc.last.mem, .slice pa pn pc], .int .i64 er]) ∧ Hid (er = stE (bI t)) ∧ Hid (er = 0 → x = stV (bI t) ∧ x.Wf ∧ prS x = t ∧ recE x.rc = 0) ∧ RdV w' pa pn pc x.rc.pend ∧ Below w.heap.size w w' := by
  refine (parse_any t w hz).mono ?_
  rintro e w' ⟨⟨x, pa, pn, pc, rfl, h1, _, hp⟩, hb⟩
  refine ⟨x, _, pa, pn, pc, rfl, rfl, fun h => ?_, hp, hb⟩
  have hx := h1.out h
  obtain ⟨f1, f2, f3⟩ := fS t h
  subst hx
  exact ⟨rfl, f1, f2, f3⟩
theorem parseI_fwd (t : ByteArray) (hz : t.size ≤ 5000) (w : World) : Calls Try.prog 16 #[.string t] w fun e w' => ∃ (x : It) (D : ByteArray) (er : Int) (pa : Option Addr) (pn pc : Nat), e = .returned (.tuple #[.agg #[.int .i64 x.kind, .string D, .int .u32 x.inc, .int .u64 x.holds, .bool x.has, .bool x.direct, .int .u64 x.rc.last.num, .int .u64 x.rc.last.ce, .int .i64 x.rc.last.cr, .int .u64 x.rc.last.mem, .slice pa pn pc, .int .u64 x.view.num, .int .u64 x.view.ce, .int .i64 x.view.cr, .int .u64 x.view.mem, .int .u64 x.number, .int .i64 x.index, .int .i64 x.total], .int .i64 er]) ∧ Hid (er = itPE (bI t)) ∧ Hid (er = 0 → x = itPV (bI t) ∧ x.Wf ∧ prI x = t ∧ itE x = 0 ∧ x.data = bI D ∧ D.size ≤ 5000) ∧ RdV w' pa pn pc x.rc.pend ∧ Below w.heap.size w w' := by
  refine (parseItem_any t w hz).mono ?_
  rintro e w' ⟨⟨x, D, pa, pn, pc, rfl, h1, _, hd, hp⟩, hb⟩
  refine ⟨x, D, _, pa, pn, pc, rfl, rfl, fun h => ?_, hp, hb⟩
  have hx := h1.out h
  obtain ⟨f1, f2, f3, f4⟩ := fI t h
  subst hx
  refine ⟨rfl, f1, f2, f3, hd, ?_⟩
  rw [hd, bI_len] at f4
  omega
/-- Parse of what Print printed. -/
theorem parse_back (s : St) (hs : s.Wf) (he : recE s.rc = 0) (w : World) : Calls Try.prog 14 #[.string (prS s)] w fun e w' => ∃ (pa : Option Addr) (pn pc : Nat), e = .returned (.tuple #[.agg #[.int .u64 s.epoch, .int .u32 s.inc, .int .u64 s.rc.last.num, .int .u64 s.rc.last.ce, .int .i64 s.rc.last.cr, .int .u64 s.rc.last.mem, .slice pa pn pc], .int .i64 0]) ∧ RdV w' pa pn pc s.rc.pend ∧ Below w.heap.size w w' := by
  refine (parse_fwd (prS s) (prS_le s) w).mono ?_
  rintro e w' ⟨x, er, pa, pn, pc, rfl, h0, h1, hp, hb⟩
  obtain ⟨e0, e1⟩ := st_back s hs he
  have h2 : er = 0 := by rw [h0.out, bI_prS he]; exact e0
  have hx := (h1.out h2).1
  rw [bI_prS he, e1] at hx
  clear h0 h1
  subst h2
  subst hx
  exact ⟨pa, pn, pc, rfl, hp, hb⟩
theorem parseI_back (x : It) (D : ByteArray) (hx : x.Wf) (hd : x.data = bI D) (he : itE x = 0) (w : World) : Calls Try.prog 16 #[.string (prI x)] w fun e w' => ∃ (y : It) (D' : ByteArray) (pa : Option Addr) (pn pc : Nat), e = .returned (.tuple #[.agg #[.int .i64 y.kind, .string D', .int .u32 y.inc, .int .u64 y.holds, .bool y.has, .bool y.direct, .int .u64 y.rc.last.num, .int .u64 y.rc.last.ce, .int .i64 y.rc.last.cr, .int .u64 y.rc.last.mem, .slice pa pn pc, .int .u64 y.view.num, .int .u64 y.view.ce, .int .i64 y.view.cr, .int .u64 y.view.mem, .int .u64 y.number, .int .i64 y.index, .int .i64 y.total], .int .i64 0]) ∧ Hid (y.Wf ∧ prI y = prI x ∧ itE y = 0 ∧ y.data = bI D' ∧ D'.size ≤ 5000) ∧ Hid (y.kind = x.kind ∧ (x.kind = 1 ∨ x.kind = 4 → D' = D) ∧ (x.kind = 3 → y.view = x.view) ∧ (x.kind = 2 → y.inc = x.inc ∧ y.holds = x.holds ∧ y.has = x.has ∧ y.direct = x.direct ∧ y.rc = x.rc)) ∧ RdV w' pa pn pc y.rc.pend ∧ Below w.heap.size w w' := by
  refine (parseI_fwd (prI x) (prI_le x hx.2.2.2.2.2) w).mono ?_
  rintro e w' ⟨y, D', er, pa, pn, pc, rfl, h0, h1, hp, hb⟩
  obtain ⟨e0, e1, e2, e3, e4⟩ := it_back x hx he
  have h2 : er = 0 := by rw [h0.out, bI_prI hx.2.2.2.2.2 he]; exact e0
  obtain ⟨hy, f1, f2, f3, f4, f5⟩ := h1.out h2
  rw [bI_prI hx.2.2.2.2.2 he] at hy
  clear h0 h1
  subst h2
  rw [← hy] at e1 e2 e3 e4
  exact ⟨y, D', pa, pn, pc, rfl, ⟨f1, f2, f3, f4, f5⟩, ⟨e1, fun h => bI_inj2 (by rw [← f4, e2 h, hd]), e3, e4⟩, hp, hb⟩
end Go.Proofs.Ytdfnpaaejjediaa
