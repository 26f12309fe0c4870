/- plain law of NamesKeep: what a round asks -/
import Derived.Test.YtcgfpolklfhppaaDoorNameH
import Derived.Test.YtcgfpolklfhppaaDoorSetN
namespace Go.Proofs.YtcgfpolklfhppaaDoor
open Go.RowKit Go.Sort

theorem sub_facts {m st : Nat} (hm : m < 18446744073709551616) (hs : st < 18446744073709551616) (h : ∀ p, st.testBit p = true → m.testBit p = true) :
    inB st m = true ∧ (butN m st ||| st) = m ∧ (butN m st &&& st) = 0 := by
  have h1 : st &&& m = st := ext64 (and_lt _ _ hs) hs fun i hi => by
    rw [Nat.testBit_and]
    have := h i
    cases e : st.testBit i <;> simp_all
  have hb := but_lt m st hm
  refine ⟨?_, ?_, ?_⟩
  · rw [inB, (but_eq0 hs hm).2 h1]; rfl
  · refine ext64 (Nat.or_lt_two_pow (n := 64) hb hs) hm fun i hi => ?_
    rw [Nat.testBit_or, but_bit hs i hi]
    have := h i
    cases e : st.testBit i <;> simp_all
  · refine ext64 (and_lt _ _ hb) (by decide) fun i hi => ?_
    rw [Nat.testBit_and, but_bit hs i hi]
    cases e : st.testBit i <;> simp_all
def zIt : It := ⟨[.int .i64 0, .string ⟨#[]⟩, .int .u32 0, .int .u64 0, .bool false, .bool false, .int .u64 0, .int .u64 0, .int .i64 0, .int .u64 0, .slice none 0 0, .int .u64 0, .int .u64 0, .int .i64 0, .int .u64 0, .int .u64 0, .int .i64 0, .int .i64 0], 0, 0, false, false⟩
theorem zIt_wf : zIt.Wf := ⟨rfl, rfl, rfl, rfl, rfl, by decide, by decide, one18 rfl⟩
theorem Tryd.itZ : (Tryd.prog.info? 48).map (·.zero) = some (some (.agg zIt.cs.toArray)) := by kernel_rfl
/-- The claim that belongs to member i. -/
def clAt (l : List It) (i : Nat) : It := (l[i]?).getD zIt
theorem clAt_wf {l : List It} (hw : ∀ x ∈ l, x.Wf) (i : Nat) : (clAt l i).Wf := by
  unfold clAt
  cases e : l[i]? with
  | none => exact zIt_wf
  | some x => exact hw x (List.mem_of_getElem? e)
theorem clB_hold (l : List It) (n i : Nat) : clB l (It.hold n) i = ((clAt l i).has && decide ((clAt l i).holds = n)) := by
  unfold clB clAt
  cases l[i]? <;> rfl
theorem clB_direct (l : List It) (i : Nat) : clB l (·.direct) i = (clAt l i).direct := by
  unfold clB clAt
  cases l[i]? <;> rfl
theorem inc0_at (l : List It) (i : Nat) : inc0 l i = (clAt l i).inc := by
  unfold inc0 clAt
  cases l[i]? <;> rfl
/-- What a round of NamesKeep finds of member p, its claim y. -/
structure Kept (n st : Nat) (p : Nat) (y : It) : Prop where
  h1 : st.testBit p = true → y.has = true ∧ y.holds = n
  h2 : st.testBit p = true → 1 < cardN st → y.direct = true
  h3 : st.testBit p = false → y.has = true → y.holds = n → y.direct = false
  h4 : y.has = true → y.holds = n → st ≠ 0
theorem kept (n m : Nat) (l : List It) (i : Nat) (hi : i < (memN m).length) : Kept n (stayN n m l) (memN m)[i] (clAt l i) where
  h1 h := by
    have := stay_hold n m l i hi h
    rw [clB_hold, Bool.and_eq_true, decide_eq_true_eq] at this
    exact this
  h2 h hc := by rw [← clB_direct]; exact many_dir n m l hc i hi h
  h3 h a b := by
    cases e : (clAt l i).direct with
    | false => rfl
    | true =>
      have hd : clB l (dirQ n) i = true := by rw [clB_dir, clB_hold, clB_direct, e, a, b]; simp
      rw [dir_stay n m l i hi hd] at h
      cases h
  h4 a b := hold_some n m l i hi (by rw [clB_hold, a, b]; simp)
end Go.Proofs.YtcgfpolklfhppaaDoor
