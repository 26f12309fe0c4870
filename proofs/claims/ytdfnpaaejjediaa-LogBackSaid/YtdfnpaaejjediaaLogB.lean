/- log, plain laws: stable records and items as bytes, and back -/
import Derived.Test.YtdfnpaaejjediaaLogA
namespace Go.Proofs.Ytdfnpaaejjediaa
open Go.RowKit

structure St where
  epoch : Nat
  inc : Nat
  rc : Rc
def St.Wf (s : St) : Prop := s.epoch < 18446744073709551616 ∧ s.inc < 4294967296 ∧ s.rc.Wf
def stB (s : St) : List Int := beL 1 1 1 ++ (beL s.epoch 8 8 ++ (beL s.inc 4 4 ++ recB s.rc))
def stE (L : List Int) : Int := if L.length < 1 then 2 else if nv L 0 1 ≠ 1 then 10 else if L.length < 13 then 2 else if rcE L 13 ≠ 0 then rcE L 13 else if rcEnd L 13 < L.length then 4 else 0
def stV (L : List Int) : St := ⟨(nv L 1 8).toNat, (nv L 9 4).toNat, rcAt L 13⟩
theorem stB_len (s : St) : (stB s).length = 39 + 25 * s.rc.pend.length := by
  simp only [stB, List.length_append, beL_len, recB_len]; omega
theorem stB_by (s : St) : ByL (stB s) := ByL.append (beL_mem _ _ _) (ByL.append (beL_mem _ _ _) (ByL.append (beL_mem _ _ _) (recB_by _)))
theorem stE_zero {L : List Int} : stE L = 0 ↔ nv L 0 1 = 1 ∧ 13 ≤ L.length ∧ rcE L 13 = 0 ∧ L.length ≤ rcEnd L 13 := by
  unfold stE
  by_cases h0 : L.length < 1
  · rw [if_pos h0]; exact ⟨(fun h => by cases h), fun h => by omega⟩
  rw [if_neg h0]
  by_cases h1 : nv L 0 1 = 1
  · rw [if_neg (by simpa using h1)]
    by_cases h2 : L.length < 13
    · rw [if_pos h2]; exact ⟨(fun h => by cases h), fun h => by omega⟩
    rw [if_neg h2]
    by_cases h3 : rcE L 13 = 0
    · rw [if_neg (by simpa using h3)]
      by_cases h4 : rcEnd L 13 < L.length
      · rw [if_pos h4]; exact ⟨(fun h => by cases h), fun h => by omega⟩
      · rw [if_neg h4]; exact ⟨fun _ => ⟨h1, by omega, h3, by omega⟩, fun _ => rfl⟩
    · rw [if_pos h3]; exact ⟨fun h => absurd h h3, fun h => absurd h.2.2.1 h3⟩
  · rw [if_pos h1]; exact ⟨(fun h => by cases h), fun h => absurd h.1 h1⟩
theorem st_back (s : St) (hw : s.Wf) (he : recE s.rc = 0) : stE (stB s) = 0 ∧ stV (stB s) = s := by
  obtain ⟨epoch, inc, rc⟩ := s
  obtain ⟨w1, w2, w3⟩ := hw
  simp only at w1 w2 w3 he
  have e0 : nv (stB ⟨epoch, inc, rc⟩) 0 1 = 1 := nvb [] 1 1 _ 0 rfl (by decide)
  have e1 : nv (stB ⟨epoch, inc, rc⟩) 1 8 = epoch := nvb (beL 1 1 1) epoch 8 _ 1 (by rw [beL_len]) (by omega)
  have e2 : nv (stB ⟨epoch, inc, rc⟩) 9 4 = inc := by
    rw [stB, ← List.append_assoc]
    exact nvb _ inc 4 _ 9 (by rw [List.length_append, beL_len, beL_len]) (by omega)
  have e3 := rcAt_recB (beL 1 1 1 ++ (beL epoch 8 8 ++ beL inc 4 4)) rc [] w3 he 13 (by simp only [List.length_append, beL_len])
  have ea : (beL 1 1 1 ++ (beL epoch 8 8 ++ beL inc 4 4)) ++ (recB rc ++ []) = stB ⟨epoch, inc, rc⟩ := by
    simp only [stB, List.append_assoc, List.append_nil]
  rw [ea] at e3
  obtain ⟨r1, r2, r3⟩ := e3
  refine ⟨stE_zero.2 ⟨e0, ?_, r2, ?_⟩, ?_⟩
  · rw [stB_len]; omega
  · rw [r3, stB_len, recB_len]; dsimp only; omega
  · rw [stV, e1, e2, r1]; rfl
theorem st_forth {L : List Int} (hb : ByL L) (h : stE L = 0) : stB (stV L) = L ∧ recE (stV L).rc = 0 ∧ (stV L).Wf := by
  obtain ⟨h1, h2, h3, h4⟩ := stE_zero.1 h
  have h5 := rcEnd_le h3
  obtain ⟨r1, r2, r3⟩ := recB_rcAt hb h3
  have g1 := nv_nonneg hb 1 8
  have g2 := nv_nonneg hb 9 4
  have k1 := nv_lt hb 1 8
  have k2 := nv_lt hb 9 4
  refine ⟨?_, r2, ?_, ?_, r3⟩
  · rw [stB]
    simp only [stV]
    have e0 : beL 1 1 1 = (L.drop 0).take 1 := by have := be_nv hb 0 1 (by omega); rwa [h1] at this
    rw [r1, Int.toNat_of_nonneg g1, Int.toNat_of_nonneg g2, e0, be_nv hb 1 8 (by omega), be_nv hb 9 4 (by omega)]
    rw [← take_split' L 9 4 (rcEnd L 13 - 13) 13 (4 + (rcEnd L 13 - 13)) rfl rfl, ← take_split' L 1 8 (4 + (rcEnd L 13 - 13)) 9 _ rfl rfl, ← take_split' L 0 1 (8 + (4 + (rcEnd L 13 - 13))) 1 _ rfl rfl, List.drop_zero, List.take_of_length_le]
    unfold rcEnd at *
    omega
  · simp only [stV]; omega
  · simp only [stV]; omega

structure It where
  kind : Int
  data : List Int
  inc : Nat
  holds : Nat
  has : Bool
  direct : Bool
  rc : Rc
  view : Vw
  number : Nat
  index : Int
  total : Int
def It.Wf (x : It) : Prop := x.inc < 4294967296 ∧ x.holds < 18446744073709551616 ∧ x.rc.Wf ∧ x.view.Wf ∧ x.number < 18446744073709551616 ∧ ByL x.data
def flN (h d : Bool) : Nat := (if h = true then 1 else 0) + (if d = true then 2 else 0)
def itBody (x : It) : List Int :=
  if x.kind = 2 then beL x.inc 4 4 ++ (beL x.holds 8 8 ++ (beL (flN x.has x.direct) 1 1 ++ recB x.rc))
  else if x.kind = 3 then vwB x.view
  else if x.kind = 4 then beL x.number 8 8 ++ (beL x.index 2 2 ++ (beL x.total 2 2 ++ x.data))
  else x.data
def itB (x : It) : List Int := beL x.kind 1 1 ++ itBody x
def rgB (x : It) : Bool := decide (0 ≤ x.index ∧ x.index ≤ 65535 ∧ 0 ≤ x.total ∧ x.total ≤ 65535)
/-- What is wrong with an item to be printed. -/
def itE (x : It) : Int :=
  if x.kind < 1 ∨ 4 < x.kind then 10
  else if x.kind = 2 then recE x.rc
  else if x.kind = 3 then (if x.view.ok = true then 0 else 1)
  else if x.kind = 4 then (if rgB x = true then (if 1024 < 13 + x.data.length then 3 else 0) else 1)
  else if 1024 < 1 + x.data.length then 3 else 0
/-- What is wrong with an item's bytes; the item. -/
def itPE (L : List Int) : Int :=
  if L.length < 1 then 2 else if nv L 0 1 < 1 ∨ 4 < nv L 0 1 then 10 else if 1024 < L.length then 3
  else if nv L 0 1 = 2 then (if L.length < 14 then 2 else if 3 < nv L 13 1 then 1 else if rcE L 14 ≠ 0 then rcE L 14 else if rcEnd L 14 < L.length then 4 else 0)
  else if nv L 0 1 = 3 then (if vwE L 1 ≠ 0 then vwE L 1 else if 26 < L.length then 4 else 0)
  else if nv L 0 1 = 4 then (if L.length < 13 then 2 else 0)
  else 0
def itPV (L : List Int) : It :=
  if nv L 0 1 = 2 then ⟨2, [], (nv L 1 4).toNat, (nv L 5 8).toNat, decide (nv L 13 1 % 2 = 1), decide (nv L 13 1 / 2 = 1), rcAt L 14, .zero, 0, 0, 0⟩
  else if nv L 0 1 = 3 then ⟨3, [], 0, 0, false, false, ⟨.zero, []⟩, vwAt L 1, 0, 0, 0⟩
  else if nv L 0 1 = 4 then ⟨4, L.drop 13, 0, 0, false, false, ⟨.zero, []⟩, .zero, (nv L 1 8).toNat, nv L 9 2, nv L 11 2⟩
  else ⟨1, L.drop 1, 0, 0, false, false, ⟨.zero, []⟩, .zero, 0, 0, 0⟩

theorem flN_bits (f : Int) (h0 : 0 ≤ f) (h3 : f ≤ 3) : ((flN (decide (f % 2 = 1)) (decide (f / 2 = 1)) : Nat) : Int) = f := by
  have : f = 0 ∨ f = 1 ∨ f = 2 ∨ f = 3 := by omega
  rcases this with rfl | rfl | rfl | rfl <;> rfl
theorem flN_le (a b : Bool) : flN a b ≤ 3 := by cases a <;> cases b <;> decide
theorem flN_has (a b : Bool) : decide (((flN a b : Nat) : Int) % 2 = 1) = a ∧ decide (((flN a b : Nat) : Int) / 2 = 1) = b := by cases a <;> cases b <;> decide

theorem itB1 {x : It} (h : x.kind = 1) : itB x = beL 1 1 1 ++ x.data := by rw [itB, itBody, h]; rfl
theorem itB2 {x : It} (h : x.kind = 2) : itB x = beL 2 1 1 ++ (beL x.inc 4 4 ++ (beL x.holds 8 8 ++ (beL (flN x.has x.direct) 1 1 ++ recB x.rc))) := by rw [itB, itBody, h]; rfl
theorem itB3 {x : It} (h : x.kind = 3) : itB x = beL 3 1 1 ++ vwB x.view := by rw [itB, itBody, h]; rfl
theorem itB4 {x : It} (h : x.kind = 4) : itB x = beL 4 1 1 ++ (beL x.number 8 8 ++ (beL x.index 2 2 ++ (beL x.total 2 2 ++ x.data))) := by rw [itB, itBody, h]; rfl
theorem itE_kind {x : It} (h : itE x = 0) : x.kind = 1 ∨ x.kind = 2 ∨ x.kind = 3 ∨ x.kind = 4 := by
  unfold itE at h
  split at h
  · cases h
  · omega

/-- What is parsed of what an item is printed to. -/
theorem it_back (x : It) (hw : x.Wf) (h : itE x = 0) : itPE (itB x) = 0 ∧ (itPV (itB x)).kind = x.kind ∧ (x.kind = 1 ∨ x.kind = 4 → (itPV (itB x)).data = x.data) ∧ (x.kind = 3 → (itPV (itB x)).view = x.view) ∧
    (x.kind = 2 → (itPV (itB x)).inc = x.inc ∧ (itPV (itB x)).holds = x.holds ∧ (itPV (itB x)).has = x.has ∧ (itPV (itB x)).direct = x.direct ∧ (itPV (itB x)).rc = x.rc) := by
  obtain ⟨w1, w2, w3, w4, w5, w6⟩ := hw
  rcases itE_kind h with hk | hk | hk | hk
  · have hl : (itB x).length = 1 + x.data.length := by rw [itB1 hk, List.length_append, beL_len]
    have e0 : nv (itB x) 0 1 = 1 := by rw [itB1 hk]; exact nvb [] 1 1 _ 0 rfl (by decide)
    have hd : (itB x).drop 1 = x.data := by rw [itB1 hk, List.drop_append_of_le_length (Nat.le_of_eq (beL_len _ _ _).symm), List.drop_of_length_le (Nat.le_of_eq (beL_len _ _ _)), List.nil_append]
    have hlen : 1 + x.data.length ≤ 1024 := by
      unfold itE at h
      rw [if_neg (by omega), if_neg (by omega), if_neg (by omega), if_neg (by omega)] at h
      split at h
      · cases h
      · omega
    refine ⟨?_, ?_, fun _ => ?_, fun h => by omega, fun h => by omega⟩
    · unfold itPE; rw [e0, if_neg (by omega), if_neg (by omega), if_neg (by omega), if_neg (by decide), if_neg (by decide), if_neg (by decide)]
    · unfold itPV; rw [e0, if_neg (by decide), if_neg (by decide), if_neg (by decide)]; exact hk.symm
    · unfold itPV; rw [e0, if_neg (by decide), if_neg (by decide), if_neg (by decide)]; exact hd
  · have hr : recE x.rc = 0 := by
      unfold itE at h
      rwa [if_neg (by omega), if_pos hk] at h
    have hf := flN_le x.has x.direct
    have e0 : nv (itB x) 0 1 = 2 := by rw [itB2 hk]; exact nvb [] 2 1 _ 0 rfl (by decide)
    have e1 : nv (itB x) 1 4 = x.inc := by rw [itB2 hk]; exact nvb (beL 2 1 1) x.inc 4 _ 1 (by rw [beL_len]) (by omega)
    have e2 : nv (itB x) 5 8 = x.holds := by
      rw [itB2 hk, ← List.append_assoc]; exact nvb _ x.holds 8 _ 5 (by simp only [List.length_append, beL_len]) (by omega)
    have e3 : nv (itB x) 13 1 = flN x.has x.direct := by
      rw [itB2 hk, ← List.append_assoc, ← List.append_assoc]; exact nvb _ (flN x.has x.direct) 1 _ 13 (by simp only [List.length_append, beL_len]) (by omega)
    have e4 := rcAt_recB (beL 2 1 1 ++ (beL x.inc 4 4 ++ (beL x.holds 8 8 ++ beL (flN x.has x.direct) 1 1))) x.rc [] w3 hr 14 (by simp only [List.length_append, beL_len])
    have ea : (beL 2 1 1 ++ (beL x.inc 4 4 ++ (beL x.holds 8 8 ++ beL (flN x.has x.direct) 1 1))) ++ (recB x.rc ++ []) = itB x := by
      rw [itB2 hk]; simp only [List.append_assoc, List.append_nil]
    rw [ea] at e4
    obtain ⟨r1, r2, r3⟩ := e4
    have hl : (itB x).length = 14 + (recB x.rc).length := by rw [itB2 hk]; simp only [List.length_append, beL_len]; omega
    have hN : x.rc.pend.length ≤ 32 := by
      unfold recE at hr
      split at hr
      · cases hr
      · split at hr
        · cases hr
        · omega
    rw [recB_len] at hl r3
    have hlast : itPV (itB x) = ⟨2, [], x.inc, x.holds, x.has, x.direct, x.rc, .zero, 0, 0, 0⟩ := by
      unfold itPV; rw [e0, if_pos rfl, e1, e2, e3, r1, (flN_has x.has x.direct).1, (flN_has x.has x.direct).2]; rfl
    refine ⟨?_, ?_, fun h => by omega, fun h => by omega, fun _ => ?_⟩
    · unfold itPE
      rw [e0, if_neg (by omega), if_neg (by omega), if_neg (by omega), if_pos rfl, if_neg (by omega), e3, if_neg (by omega), if_neg (by simpa using r2), if_neg (by omega)]
    · rw [hlast]; exact hk.symm
    · rw [hlast]; exact ⟨rfl, rfl, rfl, rfl, rfl⟩
  · have ho : x.view.ok = true := by
      unfold itE at h
      rw [if_neg (by omega), if_neg (by omega), if_pos hk] at h
      split at h
      · assumption
      · cases h
    have e0 : nv (itB x) 0 1 = 3 := by rw [itB3 hk]; exact nvb [] 3 1 _ 0 rfl (by decide)
    have e1 := vwAt_vwB (beL 3 1 1) x.view [] w4 ho 1 (by rw [beL_len])
    rw [List.append_nil, ← itB3 hk] at e1
    have hl : (itB x).length = 26 := by rw [itB3 hk, List.length_append, beL_len, vwB_len]
    have hlast : itPV (itB x) = ⟨3, [], 0, 0, false, false, ⟨.zero, []⟩, x.view, 0, 0, 0⟩ := by
      unfold itPV; rw [e0, if_neg (by decide), if_pos rfl, e1.1]
    refine ⟨?_, ?_, fun h => by omega, fun _ => ?_, fun h => by omega⟩
    · unfold itPE
      rw [e0, if_neg (by omega), if_neg (by omega), if_neg (by omega), if_neg (by decide), if_pos rfl, if_neg (by simpa using e1.2), if_neg (by omega)]
    · rw [hlast]; exact hk.symm
    · rw [hlast]
  · have hr : rgB x = true ∧ 13 + x.data.length ≤ 1024 := by
      unfold itE at h
      rw [if_neg (by omega), if_neg (by omega), if_neg (by omega), if_pos hk] at h
      split at h
      · rename_i h1
        split at h
        · cases h
        · exact ⟨h1, by omega⟩
      · cases h
    have e0 : nv (itB x) 0 1 = 4 := by rw [itB4 hk]; exact nvb [] 4 1 _ 0 rfl (by decide)
    have hl : (itB x).length = 13 + x.data.length := by rw [itB4 hk]; simp only [List.length_append, beL_len]; omega
    have hd : (itB x).drop 13 = x.data := by
      rw [itB4 hk, ← List.append_assoc, ← List.append_assoc, ← List.append_assoc]
      have : (beL 4 1 1 ++ beL ↑x.number 8 8 ++ beL x.index 2 2 ++ beL x.total 2 2).length = 13 := by simp only [List.length_append, beL_len]
      rw [List.drop_append_of_le_length (by omega), List.drop_of_length_le (by omega), List.nil_append]
    have hlast : itPV (itB x) = ⟨4, x.data, 0, 0, false, false, ⟨.zero, []⟩, .zero, (nv (itB x) 1 8).toNat, nv (itB x) 9 2, nv (itB x) 11 2⟩ := by
      unfold itPV; rw [e0, if_neg (by decide), if_neg (by decide), if_pos rfl, hd]
    refine ⟨?_, ?_, fun _ => ?_, fun h => by omega, fun h => by omega⟩
    · unfold itPE
      rw [e0, if_neg (by omega), if_neg (by omega), if_neg (by omega), if_neg (by decide), if_neg (by decide), if_pos rfl, if_neg (by omega)]
    · rw [hlast]; exact hk.symm
    · rw [hlast]
/-- What is parsed of any bytes is printed to these. -/
theorem it_forth {L : List Int} (hb : ByL L) (h : itPE L = 0) : itB (itPV L) = L ∧ itE (itPV L) = 0 := by
  unfold itPE at h
  by_cases h1 : L.length < 1
  · rw [if_pos h1] at h; cases h
  rw [if_neg h1] at h
  by_cases h2 : nv L 0 1 < 1 ∨ 4 < nv L 0 1
  · rw [if_pos h2] at h; cases h
  rw [if_neg h2] at h
  by_cases h3 : 1024 < L.length
  · rw [if_pos h3] at h; cases h
  rw [if_neg h3] at h
  have hk0 : beL (nv L 0 1) 1 1 = (L.drop 0).take 1 := be_nv hb 0 1 (by omega)
  have hk : nv L 0 1 = 2 ∨ nv L 0 1 = 3 ∨ nv L 0 1 = 4 ∨ nv L 0 1 = 1 := by omega
  rcases hk with hk | hk | hk | hk
  · rw [hk, if_pos rfl] at h
    by_cases g1 : L.length < 14
    · rw [if_pos g1] at h; cases h
    rw [if_neg g1] at h
    by_cases g2 : 3 < nv L 13 1
    · rw [if_pos g2] at h; cases h
    rw [if_neg g2] at h
    by_cases g3 : rcE L 14 = 0
    · rw [if_neg (by simpa using g3)] at h
      by_cases g4 : rcEnd L 14 < L.length
      · rw [if_pos g4] at h; cases h
      have hend := rcEnd_le g3
      obtain ⟨r1, r2, r3⟩ := recB_rcAt hb g3
      have f0 := nv_nonneg hb 13 1
      have f1 := nv_nonneg hb 1 4
      have f2 := nv_nonneg hb 5 8
      rw [hk] at hk0
      have hV : itPV L = ⟨2, [], (nv L 1 4).toNat, (nv L 5 8).toNat, decide (nv L 13 1 % 2 = 1), decide (nv L 13 1 / 2 = 1), rcAt L 14, .zero, 0, 0, 0⟩ := by unfold itPV; rw [hk, if_pos rfl]
      refine ⟨?_, ?_⟩
      · rw [hV, itB2 rfl]
        dsimp only
        rw [r1, Int.toNat_of_nonneg f1, Int.toNat_of_nonneg f2, flN_bits _ f0 (by omega), hk0, be_nv hb _ _ (by omega), be_nv hb _ _ (by omega), be_nv hb _ _ (by omega)]
        rw [← take_split' L 13 1 (rcEnd L 14 - 14) 14 _ rfl rfl, ← take_split' L 5 8 _ 13 _ rfl rfl, ← take_split' L 1 4 _ 5 _ rfl rfl, ← take_split' L 0 1 _ 1 _ rfl rfl, List.drop_zero, List.take_of_length_le]
        unfold rcEnd at *
        omega
      · rw [hV]; unfold itE; dsimp only
        rw [if_neg (by decide), if_pos rfl]; exact r2
    · rw [if_pos g3] at h; exact absurd h g3
  · rw [hk, if_neg (by decide), if_pos rfl] at h
    by_cases g1 : vwE L 1 = 0
    · rw [if_neg (by simpa using g1)] at h
      by_cases g2 : 26 < L.length
      · rw [if_pos g2] at h; cases h
      obtain ⟨v1, v2, v3⟩ := vwB_vwAt hb g1
      have g3 := (vwE_zero.1 g1).1
      rw [hk] at hk0
      have hV : itPV L = ⟨3, [], 0, 0, false, false, ⟨.zero, []⟩, vwAt L 1, 0, 0, 0⟩ := by unfold itPV; rw [hk, if_neg (by decide), if_pos rfl]
      refine ⟨?_, ?_⟩
      · rw [hV, itB3 rfl]
        dsimp only
        rw [v1, hk0, ← take_split' L 0 1 25 1 _ rfl rfl, List.drop_zero, List.take_of_length_le (by omega)]
      · rw [hV]; unfold itE; dsimp only
        rw [if_neg (by decide), if_neg (by decide), if_pos rfl, if_pos v2]
    · rw [if_pos g1] at h; exact absurd h g1
  · rw [hk, if_neg (by decide), if_neg (by decide), if_pos rfl] at h
    by_cases g1 : L.length < 13
    · rw [if_pos g1] at h; cases h
    have f1 := nv_nonneg hb 1 8
    have f2 := nv_nonneg hb 9 2
    have f3 := nv_nonneg hb 11 2
    have k2 := nv_lt hb 9 2
    have k3 := nv_lt hb 11 2
    rw [hk] at hk0
    have hV : itPV L = ⟨4, L.drop 13, 0, 0, false, false, ⟨.zero, []⟩, .zero, (nv L 1 8).toNat, nv L 9 2, nv L 11 2⟩ := by unfold itPV; rw [hk, if_neg (by decide), if_neg (by decide), if_pos rfl]
    refine ⟨?_, ?_⟩
    · rw [hV, itB4 rfl]
      dsimp only
      rw [Int.toNat_of_nonneg f1, hk0, be_nv hb _ _ (by omega), be_nv hb _ _ (by omega), be_nv hb _ _ (by omega)]
      have e : L.drop 13 = (L.drop 13).take (L.length - 13) := by rw [List.take_of_length_le (by rw [List.length_drop]; exact Nat.le_refl _)]
      rw [e, ← take_split' L 11 2 _ 13 _ rfl rfl, ← take_split' L 9 2 _ 11 _ rfl rfl, ← take_split' L 1 8 _ 9 _ rfl rfl, ← take_split' L 0 1 _ 1 _ rfl rfl, List.drop_zero, List.take_of_length_le (by omega)]
    · rw [hV]; unfold itE; dsimp only
      rw [if_neg (by decide), if_neg (by decide), if_neg (by decide), if_pos rfl, if_pos (by simp only [rgB, decide_eq_true_eq]; omega), if_neg (by rw [List.length_drop]; omega)]
  · rw [hk] at hk0
    have hV : itPV L = ⟨1, L.drop 1, 0, 0, false, false, ⟨.zero, []⟩, .zero, 0, 0, 0⟩ := by unfold itPV; rw [hk, if_neg (by decide), if_neg (by decide), if_neg (by decide)]
    refine ⟨?_, ?_⟩
    · rw [hV, itB1 rfl]
      dsimp only
      have e : L.drop 1 = (L.drop 1).take (L.length - 1) := by rw [List.take_of_length_le (by rw [List.length_drop]; exact Nat.le_refl _)]
      rw [hk0, e, ← take_split' L 0 1 _ 1 _ rfl rfl, List.drop_zero, List.take_of_length_le (by omega)]
    · rw [hV]; unfold itE; dsimp only
      rw [if_neg (by decide), if_neg (by decide), if_neg (by decide), if_neg (by decide), if_neg (by rw [List.length_drop]; omega)]
end Go.Proofs.Ytdfnpaaejjediaa
