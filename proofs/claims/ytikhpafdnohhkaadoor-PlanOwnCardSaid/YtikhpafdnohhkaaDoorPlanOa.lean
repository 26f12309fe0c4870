/- plan, plain: what PlanOwn makes, and where it lies -/
import Derived.Test.YtikhpafdnohhkaaDoorPlanFa
import Derived.Test.YtikhpafdnohhkaaDoorPlanT
import Derived.Test.YtikhpafdnohhkaaDoorApt
namespace Go.Proofs.YtikhpafdnohhkaaDoor
set_option linter.unusedSimpArgs false
set_option linter.unusedVariables false
open Go.RowKit
def exV (C S : List Nat) (i : Nat) : Xv := ⟨i, 0, 0, C.set i (C.getD i 0 + S.getD i 0 % 5), 1, 0⟩
def olV (C S : List Nat) (n : Nat) : List Xv := (List.range n).map (exV C S)
def MOk (C S : List Nat) (n : Nat) (m : Ms) : Prop := ∃ i : Nat, i < n ∧ m.src = (i : Int) ∧ C.getD i 0 < m.seq ∧ m.seq ≤ C.getD i 0 + S.getD i 0 % 5 ∧ m.deps = C
theorem MOk.mono {C S : List Nat} {n n' : Nat} {m : Ms} (h : MOk C S n m) (hn : n ≤ n') : MOk C S n' m := by
  obtain ⟨i, h1, h2⟩ := h
  exact ⟨i, Nat.lt_of_lt_of_le h1 hn, h2⟩
theorem olV_snoc (C S : List Nat) (n : Nat) : olV C S (n + 1) = olV C S n ++ [exV C S n] := by simp [olV, List.range_succ]
theorem olV_mem {C S : List Nat} {n i : Nat} (h : i < n) : exV C S i ∈ olV C S n := List.mem_map.2 ⟨i, List.mem_range.2 h, rfl⟩
theorem olV_ok {C S : List Nat} {n : Nat} (hn : n ≤ 8) : okV (olV C S n) := by
  refine ⟨fun x hx => ?_, ?_⟩
  · obtain ⟨i, hi, rfl⟩ := List.mem_map.1 hx
    have := List.mem_range.1 hi
    simp only [exV]
    omega
  · unfold olV
    rw [List.map_map]
    refine List.pairwise_map.2 (List.Pairwise.imp (fun {a b} h e => h ?_) List.nodup_range)
    have e2 : (a : Int) = b := by simpa [exV] using e
    omega
theorem oldV_zero {me : Int} : ∀ (l : List Xv), (∀ x ∈ l, x.oe = 0 ∧ x.orp = 0) → oldV me l = (0, 0) := by
  have key : ∀ (l : List Xv) (o : Int × Int), (∀ x ∈ l, x.oe = 0 ∧ x.orp = 0) → o = (0, 0) → l.foldl (fun o x => if x.who = me then (x.oe, x.orp) else o) o = (0, 0) := by
    intro l
    induction l with
    | nil => intro o _ h; exact h
    | cons x l ih =>
      intro o h ho
      rw [List.foldl_cons]
      refine ih _ (fun y hy => h y (by simp [hy])) ?_
      obtain ⟨h1, h2⟩ := h x (by simp)
      split
      · rw [h1, h2]
      · exact ho
  exact fun l h => key l _ h rfl
theorem comp_zero {me : Int} {l : List Xv} (h : ∀ x ∈ l, x.oe = 0 ∧ x.orp = 0) : compV me l = l := by
  unfold compV compO
  rw [oldV_zero l h]
  refine List.filter_eq_self.2 (fun x hx => ?_)
  obtain ⟨h1, h2⟩ := h x hx
  simp [sameO, h1, h2]
theorem comp_olV (me : Int) (C S : List Nat) (n : Nat) : compV me (olV C S n) = olV C S n :=
  comp_zero (fun x hx => by obtain ⟨i, _, rfl⟩ := List.mem_map.1 hx; exact ⟨rfl, rfl⟩)
theorem whole_ge {l : List Xv} {x : Xv} (hx : x ∈ l) {q : Int} (h : 0 ≤ q ∧ q < 64) : atL x.cnt q ≤ wholeV l q := by
  have key : ∀ (l : List Xv) (n : Nat), n ≤ l.foldl (fun n x => max n (atL x.cnt q)) n ∧ ∀ x ∈ l, atL x.cnt q ≤ l.foldl (fun n x => max n (atL x.cnt q)) n := by
    intro l
    induction l with
    | nil => intro n; exact ⟨Nat.le_refl _, fun x hx => by cases hx⟩
    | cons y l ih =>
      intro n
      rw [List.foldl_cons]
      obtain ⟨h1, h2⟩ := ih (max n (atL y.cnt q))
      refine ⟨by omega, fun x hx => ?_⟩
      rcases List.mem_cons.1 hx with rfl | hx
      · omega
      · exact h2 x hx
  rw [wholeV, if_pos h]
  exact (key l 0).2 x hx
theorem getD_set_ge (C : List Nat) (i q v : Nat) (hv : C.getD i 0 ≤ v) : C.getD q 0 ≤ (C.set i v).getD q 0 := by
  rw [List.getD_eq_getElem?_getD, List.getD_eq_getElem?_getD, List.getElem?_set]
  by_cases h : i = q
  · subst h
    by_cases hl : i < C.length
    · rw [if_pos rfl, if_pos hl]
      rw [List.getD_eq_getElem?_getD] at hv
      simpa using hv
    · rw [if_pos rfl, if_neg hl, List.getElem?_eq_none (by omega)]
      simp
  · rw [if_neg h]; exact Nat.le_refl _
theorem getD_set_at (C : List Nat) (i v : Nat) (h : i < C.length) : (C.set i v).getD i 0 = v := by
  rw [List.getD_eq_getElem?_getD, List.getElem?_set, if_pos rfl, if_pos h]; rfl
theorem atL_nat (l : List Nat) (q : Nat) : atL l (q : Int) = l.getD q 0 := by rw [atL, if_neg (by omega), Int.toNat_natCast]
theorem no_gv {W : Int → Nat} {ms : List Ms} (h : ∀ m ∈ ms, overM (fun q => W q) m = false) {m : Ms} (hg : Gv W ms m) : False := by
  induction hg with
  | over hm hc ho => rw [h _ hm] at ho; cases ho
  | drag hm hc hx hd ih => exact ih
theorem own_kept {C S : List Nat} {n : Nat} (hn : n ≤ 8) (hC : C.length ≤ 8) (hnC : n ≤ C.length) {ms : List Ms} (h : ∀ m ∈ ms, MOk C S n m) {m : Ms} (hm : m ∈ ms) : keptB (wholeV (olV C S n)) ms m = true := by
  have ho : ∀ m ∈ ms, overM (fun q => wholeV (olV C S n) q) m = false := by
    intro m hm
    obtain ⟨i, hi, h1, h2, h3, h4⟩ := h m hm
    rw [Bool.eq_false_iff]
    intro h5
    obtain ⟨q, hq, h6⟩ := overM_iff.1 h5
    rw [h4] at hq h6
    rw [if_pos (by omega)] at h6
    have h7 := whole_ge (olV_mem (C := C) (S := S) hi) (q := (q : Int)) ⟨by omega, by omega⟩
    rw [atL_nat] at h7
    have h8 := getD_set_ge C i q (C.getD i 0 + S.getD i 0 % 5) (by omega)
    simp only [exV] at h7
    omega
  refine keptB_t.2 ⟨?_, fun hg => no_gv ho hg⟩
  obtain ⟨i, hi, h1, h2, h3, h4⟩ := h m hm
  have h7 := whole_ge (olV_mem (C := C) (S := S) hi) (q := (i : Int)) ⟨by omega, by omega⟩
  rw [atL_nat] at h7
  simp only [exV] at h7
  rw [getD_set_at C i _ (by omega)] at h7
  unfold cntM
  rw [h1]
  exact decide_eq_true ⟨by omega, by omega⟩
theorem bnd_olV (C S : List Nat) : ∀ n, 0 < n → bndV (olV C S n) = (1, 0) := by
  intro n
  induction n with
  | zero => intro h; omega
  | succ n ih =>
    intro _
    by_cases h0 : n = 0
    · subst h0; rfl
    · have hne : olV C S n ≠ [] := by intro e; have := congrArg List.length e; simp [olV] at this; exact h0 this
      rw [olV_snoc, bndV_snoc hne, ih (by omega)]
      rfl
theorem olV_cnt {C S : List Nat} {n : Nat} (hC : ∀ c ∈ C, c < 5) : ∀ x ∈ olV C S n, ∀ y ∈ x.cnt, y < 4294967296 := by
  intro x hx y hy
  obtain ⟨i, _, rfl⟩ := List.mem_map.1 hx
  simp only [exV] at hy
  rcases List.mem_or_eq_of_mem_set hy with h | h
  · have := hC y h; omega
  · have h2 : C.getD i 0 < 5 := by
      rw [List.getD_eq_getElem?_getD]
      by_cases hl : i < C.length
      · rw [List.getElem?_eq_getElem hl]; exact hC _ (List.getElem_mem hl)
      · rw [List.getElem?_eq_none (by omega)]; simp
    omega
/-- The counts, made long enough. -/
def padL (D : List Nat) (j : Nat) : List Nat := D ++ List.replicate (j - D.length) 0
theorem padL_len {D : List Nat} {j : Nat} (h : D.length ≤ j) : (padL D j).length = j := by simp [padL]; omega
theorem padL_step {D : List Nat} {j : Nat} (h : D.length ≤ j) : padL D (j + 1) = padL D j ++ [0] := by
  unfold padL
  rw [show j + 1 - D.length = (j - D.length) + 1 from by omega, List.replicate_succ', List.append_assoc]
theorem padL_self (D : List Nat) : padL D D.length = D := by simp [padL]
def modK (P : List Nat) (k : Nat) : List Nat := (P.take k).map (· % 5) ++ P.drop k
theorem modK_len (P : List Nat) (k : Nat) : (modK P k).length = P.length := by
  simp only [modK, List.length_append, List.length_map, List.length_take, List.length_drop]; omega
theorem modK_at {P : List Nat} {k : Nat} (h : k < P.length) : (modK P k)[k]'(by rw [modK_len]; exact h) = P[k] := by
  simp [modK, List.getElem_append, List.length_take, Nat.min_eq_left (Nat.le_of_lt h)]
theorem modK_step {P : List Nat} {k : Nat} (h : k < P.length) : modK P (k + 1) = (modK P k).set k (P[k] % 5) := by
  unfold modK
  rw [List.take_succ_eq_append_getElem h, List.map_append, List.map_cons, List.map_nil, List.append_assoc]
  rw [List.set_append_right _ _ (by simp [Nat.min_eq_left (Nat.le_of_lt h)])]
  congr 1
  rw [List.length_map, List.length_take, Nat.min_eq_left (Nat.le_of_lt h), Nat.sub_self, List.drop_eq_getElem_cons h, List.set_cons_zero]
  rfl
theorem modK_end (P : List Nat) : ∀ c ∈ modK P P.length, c < 5 := by
  intro c hc
  simp only [modK, List.take_length, List.drop_length, List.append_nil] at hc
  obtain ⟨x, _, rfl⟩ := List.mem_map.1 hc
  omega
theorem u32s_set (l : List Nat) (k v : Nat) : (u32s l).set k (.int .u32 (v : Nat)) = u32s (l.set k v) := by rw [u32s, u32s, List.map_set]
/-- Counts that lie apart from two rows. -/
def Ap (w : World) (lv rv : Value) (pa : Option Addr) (pn pc : Nat) (l : List Nat) : Prop := RdU w pa pn pc l ∧ ∀ g off, pa = some ⟨g, off, none⟩ → pn ≠ 0 → lv.ownBlock ≠ some g ∧ rv.ownBlock ≠ some g
theorem Ap.below {w w' : World} {lv rv : Value} {pa : Option Addr} {pn pc : Nat} {l : List Nat} (h : Ap w lv rv pa pn pc l) (hb : Below w.heap.size w w') : Ap w' lv rv pa pn pc l := ⟨h.1.below hb, h.2⟩
theorem Ap.swap {w : World} {lv rv : Value} {pa : Option Addr} {pn pc : Nat} {l : List Nat} (h : Ap w lv rv pa pn pc l) : Ap w rv lv pa pn pc l := ⟨h.1, fun g off e hn => ⟨(h.2 g off e hn).2, (h.2 g off e hn).1⟩⟩
theorem Ap.grown {w w' : World} {lv rv lv' : Value} {pa : Option Addr} {pn pc : Nat} {l : List Nat} (h : Ap w lv rv pa pn pc l) (hg : w.grownBy w' lv.ownBlock) (hv : lv'.ownBlock = lv.ownBlock ∨ ∀ k, lv'.ownBlock = some k → w.heap.size ≤ k) : Ap w' lv' rv pa pn pc l := by
  obtain ⟨hr, ha⟩ := h
  have hlt : ∀ g off, pa = some ⟨g, off, none⟩ → pn ≠ 0 → g < w.heap.size := fun g off e hn => by
    obtain ⟨b', o', e', hl⟩ := Rd.addr hr (by omega)
    rw [e] at e'; injection e' with e'; injection e' with e1; rw [e1]; exact hl
  refine ⟨⟨hr.1, ?_⟩, fun g off e hn => ⟨fun e2 => ?_, (ha g off e hn).2⟩⟩
  · rcases hr.2 with h0 | ⟨g, off, e, hl, hc⟩
    · exact .inl h0
    · by_cases hn : pn = 0
      · exact .inl hn
      · obtain ⟨n1, n2⟩ := ha g off e hn
        refine .inr ⟨g, off, e, Nat.lt_of_lt_of_le hl hg.size, fun j u hu => ?_⟩
        rw [World.cell?_of_block (w := w) (hg.block g hl (fun e3 => n1 e3.symm))]
        exact hc j u hu
  · rcases hv with e3 | e3
    · rw [e3] at e2; exact (ha g off e hn).1 e2
    · have := e3 g e2
      have := hlt g off e hn
      omega
/-- The two rows while they are made. -/
structure OInv (w wr : World) (lv : Value) (m : Nat) (ol : List Xc) (rv : Value) (k : Nat) (rl : List Mc) : Prop where
  lown : wr.ownsRow w.heap.size 64 6 lv m (ol.flatMap xcC)
  rown : wr.ownsRow w.heap.size 59 6 rv k (rl.flatMap mcC)
  lr : ∀ g, lv.ownBlock = some g → rv.ownBlock ≠ some g
  linn : ∀ x ∈ ol, Ap wr lv rv x.pa x.pn x.pc x.v.cnt
  rinn : ∀ x ∈ rl, Ap wr lv rv x.pa x.pn x.pc x.m.deps
  bel : Below w.heap.size w wr
section
variable {w wr wr' : World} {lv rv : Value} {m k : Nat} {ol : List Xc} {rl : List Mc}
theorem OInv.below (h : OInv w wr lv m ol rv k rl) (hb : Below wr.heap.size wr wr') : OInv w wr' lv m ol rv k rl :=
  ⟨own_belowB h.lown hb, own_belowB h.rown hb, h.lr, fun x hx => (h.linn x hx).below hb, fun x hx => (h.rinn x hx).below hb, belS h.bel hb⟩
theorem OInv.start (hb : Below w.heap.size w wr) : OInv w wr (.slice none 0 0) 0 [] (.slice none 0 0) 0 [] :=
  ⟨World.ownsRow_nil _ _ _ _, World.ownsRow_nil _ _ _ _, (fun g e => by cases e), (fun x hx => by cases hx), (fun x hx => by cases hx), hb⟩
theorem OInv.pushL {lv' : Value} {x : Xc} (h : OInv w wr lv m ol rv k rl) (hx : Ap wr lv rv x.pa x.pn x.pc x.v.cnt) (ho : wr'.ownsRow w.heap.size 64 6 lv' (m + 1) (ol.flatMap xcC ++ xcC x)) (hg : wr.grownBy wr' lv.ownBlock) (hv : lv'.ownBlock = lv.ownBlock ∨ ∀ k, lv'.ownBlock = some k → wr.heap.size ≤ k) :
    OInv w wr' lv' (m + 1) (ol ++ [x]) rv k rl := by
  refine ⟨by rw [List.flatMap_append]; simpa using ho, own_keep h.rown (fun g hg' hlt => hg.block g hlt (fun e => h.lr g e.symm hg')), fun g e => ?_, fun y hy => ?_, fun y hy => (h.rinn y hy).grown hg hv, ?_⟩
  · rcases hv with e2 | e2
    · exact h.lr g (e2 ▸ e)
    · intro e3
      have := e2 g e
      have := (h.rown.lt g e3).2
      omega
  · rcases List.mem_append.1 hy with hy | hy
    · exact (h.linn y hy).grown hg hv
    · obtain rfl := List.mem_singleton.1 hy; exact hx.grown hg hv
  · exact h.bel.grown hg h.bel.size (fun k hk => (h.lown.lt k hk).1)
theorem OInv.pushR {rv' : Value} {x : Mc} (h : OInv w wr lv m ol rv k rl) (hx : Ap wr lv rv x.pa x.pn x.pc x.m.deps) (ho : wr'.ownsRow w.heap.size 59 6 rv' (k + 1) (rl.flatMap mcC ++ mcC x)) (hg : wr.grownBy wr' rv.ownBlock) (hv : rv'.ownBlock = rv.ownBlock ∨ ∀ k, rv'.ownBlock = some k → wr.heap.size ≤ k) :
    OInv w wr' lv m ol rv' (k + 1) (rl ++ [x]) := by
  refine ⟨own_keep h.lown (fun g hg' hlt => hg.block g hlt (fun e => h.lr g hg' e.symm)), by rw [List.flatMap_append]; simpa using ho, fun g e e3 => ?_, fun y hy => ((h.linn y hy).swap.grown hg hv).swap, fun y hy => ?_, ?_⟩
  · rcases hv with e2 | e2
    · exact h.lr g e (e2 ▸ e3)
    · have := e2 g e3
      have := (h.lown.lt g e).2
      omega
  · rcases List.mem_append.1 hy with hy | hy
    · exact ((h.rinn y hy).swap.grown hg hv).swap
    · obtain rfl := List.mem_singleton.1 hy; exact (hx.swap.grown hg hv).swap
  · exact h.bel.grown hg h.bel.size (fun k hk => (h.rown.lt k hk).1)
theorem OInv.len (h : OInv w wr lv m ol rv k rl) : ol.length = m ∧ rl.length = k := by
  have h1 := h.lown.1
  have h2 := h.rown.1
  rw [flatMap_len xcC_len] at h1
  rw [flatMap_len mcC_len] at h2
  omega
end
end Go.Proofs.YtikhpafdnohhkaaDoor
