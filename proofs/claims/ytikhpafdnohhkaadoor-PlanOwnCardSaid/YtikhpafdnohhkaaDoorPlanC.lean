/- plan: New -/
import Derived.Test.YtikhpafdnohhkaaDoorPlanB
import Derived.Test.YtikhpafdnohhkaaDoorApt
namespace Go.Proofs.YtikhpafdnohhkaaDoor
set_option linter.unusedSimpArgs false
set_option linter.unusedVariables false
open Go.RowKit

def okV (l : List Xv) : Prop := (∀ x ∈ l, 0 ≤ x.who ∧ x.who < 64) ∧ (l.map (·.who)).Nodup
theorem mask_has (l : List Xv) (p : Int) (h0 : 0 ≤ p) (h1 : p < 64) : hasB (maskV l) p = true ↔ ∃ x ∈ l, x.who = p := by
  rw [hasB_eq, maskV, withN_bit _ _ (by omega), decide_eq_true ⟨h0, h1⟩, Nat.zero_testBit, Bool.true_and, Bool.false_or, List.contains_iff_mem, Int.toNat_of_nonneg h0, List.mem_map]
theorem okV_snoc (l : List Xv) (x : Xv) : okV (l ++ [x]) ↔ okV l ∧ (0 ≤ x.who ∧ x.who < 64) ∧ hasB (maskV l) x.who = false := by
  unfold okV
  rw [List.map_append, List.map_cons, List.map_nil, List.nodup_append]
  constructor
  · rintro ⟨h1, h2, _, h3⟩
    have hx := h1 x (by simp)
    refine ⟨⟨fun y hy => h1 y (by simp [hy]), h2⟩, hx, ?_⟩
    rw [Bool.eq_false_iff, Ne, mask_has l _ hx.1 hx.2]
    rintro ⟨y, hy, e⟩
    exact h3 _ (List.mem_map.2 ⟨y, hy, rfl⟩) _ (by simp) e
  · rintro ⟨⟨h1, h2⟩, hx, h3⟩
    rw [Bool.eq_false_iff, Ne, mask_has l _ hx.1 hx.2] at h3
    refine ⟨fun y hy => ?_, h2, by simp, fun a ha b hb e => ?_⟩
    · rcases List.mem_append.1 hy with hy | hy
      · exact h1 y hy
      · obtain rfl := List.mem_singleton.1 hy; exact hx
    · obtain ⟨y, hy, rfl⟩ := List.mem_map.1 ha
      obtain rfl := List.mem_singleton.1 hb
      exact h3 ⟨y, hy, e⟩
theorem okV_take {l : List Xv} (h : okV l) (k : Nat) : okV (l.take k) :=
  ⟨fun x hx => h.1 x (List.mem_of_mem_take hx), by rw [List.map_take]; exact h.2.sublist (List.take_sublist _ _)⟩
theorem vX_snoc (l : List Xc) {k : Nat} (hk : k < l.length) : vX (l.take (k + 1)) = vX (l.take k) ++ [l[k].v] := by
  rw [List.take_succ_eq_append_getElem hk, vX, vX, List.map_append]; rfl
/-- Where 'me' stands among the first k. -/
def MineR (me : Int) (l : List Xc) (k : Nat) (mi : Int) : Prop := (mi = -1 ∧ ∀ x ∈ vX (l.take k), x.who ≠ me) ∨ ∃ (j : Nat) (h : j < l.length), j < k ∧ mi = j ∧ l[j].v.who = me
theorem MineR.no {me : Int} {l : List Xc} {k : Nat} {mi : Int} (h : MineR me l k mi) (hk : k < l.length) (hw : l[k].v.who ≠ me) : MineR me l (k + 1) mi := by
  rcases h with ⟨e, h⟩ | ⟨j, hj, h1, h2, h3⟩
  · refine .inl ⟨e, fun x hx => ?_⟩
    rw [vX_snoc l hk, List.mem_append, List.mem_singleton] at hx
    rcases hx with hx | rfl
    · exact h x hx
    · exact hw
  · exact .inr ⟨j, hj, by omega, h2, h3⟩
def sameO (o : Int × Int) (x : Xv) : Bool := decide (x.oe = o.1) && decide (x.orp = o.2)
def compO (o : Int × Int) (l : List Xv) : List Xv := l.filter (sameO o)
/-- Which configuration 'me' left. -/
def oldV (me : Int) (l : List Xv) : Int × Int := l.foldl (fun o x => if x.who = me then (x.oe, x.orp) else o) (0, 0)
def compV (me : Int) (l : List Xv) : List Xv := compO (oldV me l) l
theorem oldV_snoc (me : Int) (l : List Xv) (x : Xv) : oldV me (l ++ [x]) = if x.who = me then (x.oe, x.orp) else oldV me l := by rw [oldV, oldV, List.foldl_append]; rfl
theorem oldV_none {me : Int} : ∀ (l : List Xv) (o : Int × Int), (∀ x ∈ l, x.who ≠ me) → l.foldl (fun o x => if x.who = me then (x.oe, x.orp) else o) o = o
  | [], _, _ => rfl
  | x :: l, o, h => by rw [List.foldl_cons, if_neg (h x (by simp)), oldV_none l o (fun y hy => h y (by simp [hy]))]
theorem oldV_at {me : Int} {l : List Xv} (hok : (l.map (·.who)).Nodup) {j : Nat} (hj : j < l.length) (h : l[j].who = me) : oldV me l = (l[j].oe, l[j].orp) := by
  have e : l = l.take j ++ l[j] :: l.drop (j + 1) := by rw [← List.drop_eq_getElem_cons hj, List.take_append_drop]
  have hd : ∀ x ∈ l.drop (j + 1), x.who ≠ me := by
    intro x hx hw
    rw [e, List.map_append, List.map_cons, List.nodup_append] at hok
    have h2 := (List.nodup_cons.1 hok.2.1).1
    exact h2 (List.mem_map.2 ⟨x, hx, by rw [hw, h]⟩)
  have e2 : oldV me l = oldV me (l.take j ++ l[j] :: l.drop (j + 1)) := congrArg _ e
  rw [e2, oldV, List.foldl_append, List.foldl_cons, oldV_none _ _ hd, if_pos h]
/-- The plan while it is made: its block, its row, the counts that it cloned. -/
structure NInv (w wr : World) (pb : Nat) (a : Option Addr) (m c : Nat) (ol : List Xc) : Prop where
  blk : BlkAt wr pb 70 #[.slice a m c]
  own : wr.ownsRow (pb + 1) 64 6 (.slice a m c) m (ol.flatMap xcC)
  inn : ∀ x ∈ ol, RdU wr x.pa x.pn x.pc x.v.cnt ∧ ∀ g off, x.pa = some ⟨g, off, none⟩ → x.pn ≠ 0 → (Value.slice a m c).ownBlock ≠ some g ∧ g ≠ pb
  bel : Below w.heap.size w wr
  lo : w.heap.size ≤ pb
section
variable {w wr wr' : World} {pb : Nat} {a : Option Addr} {m c : Nat} {ol : List Xc}
theorem NInv.below (h : NInv w wr pb a m c ol) (hb : Below wr.heap.size wr wr') : NInv w wr' pb a m c ol :=
  ⟨h.blk.below hb h.blk.lt, own_belowB h.own hb, fun x hx => ⟨(h.inn x hx).1.below hb, (h.inn x hx).2⟩, belS h.bel hb, h.lo⟩
theorem NInv.len (h : NInv w wr pb a m c ol) : ol.length = m := by
  have := h.own.1
  rw [flatMap_len xcC_len] at this
  omega
theorem NInv.plan (h : NInv w wr pb a m c ol) : PlAt wr pb ol := by
  obtain ⟨a', c', e, hr⟩ := Rd.own h.own
  injection e with e1 e2 e3
  subst e1; subst e3
  exact ⟨a, m, c, h.blk.cell rfl, h.blk.lt, hr, fun x hx => (h.inn x hx).1⟩
/-- An exchange more: the row as the append left it, then the store into the plan. -/
theorem NInv.more {x : Xc} (h : NInv w wr pb a m c ol) (hx : RdU wr x.pa x.pn x.pc x.v.cnt) (hxa : ∀ g off, x.pa = some ⟨g, off, none⟩ → x.pn ≠ 0 → (Value.slice a m c).ownBlock ≠ some g ∧ g ≠ pb)
    {w4 : World} {a' : Option Addr} {c' : Nat} (hown : w4.ownsRow (pb + 1) 64 6 (.slice a' (m + 1) c') (m + 1) ((ol ++ [x]).flatMap xcC)) (hg : wr.grownBy w4 (Value.slice a m c).ownBlock)
    (hv : (Value.slice a' (m + 1) c').ownBlock = (Value.slice a m c).ownBlock ∨ ∀ k, (Value.slice a' (m + 1) c').ownBlock = some k → wr.heap.size ≤ k) :
    NInv w (w4.setCell ⟨pb, 0, none⟩ (.slice a' (m + 1) c')) pb a' (m + 1) c' (ol ++ [x]) := by
  have hpb := h.blk.lt
  have hne : ∀ g, (Value.slice a m c).ownBlock = some g → g ≠ pb := fun g hg e => by have := (h.own.lt g hg).1; omega
  have hne' : ∀ g, (Value.slice a' (m + 1) c').ownBlock = some g → g ≠ pb := fun g hg e => by have := (hown.lt g hg).1; omega
  have hb4 : BlkAt w4 pb 70 #[.slice a m c] := (hg.block pb hpb (fun e => hne pb e.symm rfl)).trans h.blk
  have hin : ∀ y : Xc, RdU wr y.pa y.pn y.pc y.v.cnt → (∀ g off, y.pa = some ⟨g, off, none⟩ → y.pn ≠ 0 → (Value.slice a m c).ownBlock ≠ some g ∧ g ≠ pb) →
      RdU (w4.setCell ⟨pb, 0, none⟩ (.slice a' (m + 1) c')) y.pa y.pn y.pc y.v.cnt ∧ ∀ g off, y.pa = some ⟨g, off, none⟩ → y.pn ≠ 0 → (Value.slice a' (m + 1) c').ownBlock ≠ some g ∧ g ≠ pb := by
    intro y hy hya
    have hlt : ∀ g off, y.pa = some ⟨g, off, none⟩ → y.pn ≠ 0 → g < wr.heap.size := fun g off e hn => by
      obtain ⟨b', o', e', hl⟩ := Rd.addr hy (by omega)
      rw [e] at e'; injection e' with e'; injection e' with e1; rw [e1]; exact hl
    refine ⟨⟨hy.1, ?_⟩, fun g off e hn => ⟨fun e2 => ?_, (hya g off e hn).2⟩⟩
    · rcases hy.2 with h0 | ⟨g, off, e, hl, hc⟩
      · exact .inl h0
      · by_cases hn : y.pn = 0
        · exact .inl hn
        · obtain ⟨n1, n2⟩ := hya g off e hn
          refine .inr ⟨g, off, e, by simpa [World.setCell] using Nat.lt_of_lt_of_le hl hg.size, fun j u hu => ?_⟩
          rw [World.cell?_of_block (w := wr) ((heap_setCell_other w4 ⟨pb, 0, none⟩ g _ n2).trans (hg.block g hl (fun e3 => n1 e3.symm)))]
          exact hc j u hu
    · rcases hv with e3 | e3
      · rw [e3] at e2; exact (hya g off e hn).1 e2
      · have := e3 g e2
        have := hlt g off e hn
        omega
  refine ⟨?_, ?_, ?_, ?_, h.lo⟩
  · exact BlkAt.set hb4 0 (.slice a' (m + 1) c')
  · exact own_keep hown (fun g hg' _ => heap_setCell_other _ _ _ _ (hne' g hg'))
  · intro y hy
    rcases List.mem_append.1 hy with hy | hy
    · exact hin y (h.inn y hy).1 (h.inn y hy).2
    · obtain rfl := List.mem_singleton.1 hy
      exact hin y hx hxa
  · have hb : Below w.heap.size w w4 := h.bel.grown hg h.bel.size (fun k hk => by have := (h.own.lt k hk).1; have := h.lo; omega)
    exact Kp.below hb (Kp.setCell (Kp.refl pb w4) ⟨pb, 0, none⟩ rfl _) h.lo (Nat.le_trans h.bel.size hg.size)
end
end Go.Proofs.YtikhpafdnohhkaaDoor
