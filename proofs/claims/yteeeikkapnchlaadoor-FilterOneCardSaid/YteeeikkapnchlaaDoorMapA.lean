/- maps from ints, known by their entries in the order in which they came -/
import Derived.Test.YteeeikkapnchlaaDoorBlk
import Derived.Test.YteeeikkapnchlaaDoorKpo
import Derived.Maps.RangeWalk
import Derived.Maps.OwnSet
namespace Go.Proofs.YteeeikkapnchlaaDoor
set_option linter.unusedSimpArgs false
set_option linter.unusedVariables false
open Go.RowKit Go.MapKept

/-- Block b is a map from ints: its entries, in the order in which they came. -/
def MapAt (w : World) (b : Nat) (l : List (Int × Value)) : Prop :=
  ∃ (es : Array MapEntry) (clock : Nat), w.heap[b]? = some (.map es clock) ∧ Stamped es clock ∧ es.toList.map (fun (e : MapEntry) => (e.key, e.val)) = l.map (fun p => (Value.int .i64 p.1, p.2))
/-- What a map holds at a key. -/
def mGet (l : List (Int × Value)) (k : Int) : Option Value := (l.find? (fun p => p.1 == k)).map (·.2)
theorem mGet_snoc (l : List (Int × Value)) (k j : Int) (v : Value) : mGet (l ++ [(k, v)]) j = (mGet l j).or (if k = j then some v else none) := by
  unfold mGet
  rw [List.find?_append]
  cases h : l.find? (fun p => p.1 == j) with
  | some p => simp
  | none =>
    simp only [Option.none_or, List.find?_cons, List.find?_nil, Option.map_none]
    by_cases e : k = j
    · subst e; simp
    · rw [show (k == j) = false from by simpa using e, if_neg e]; rfl
theorem mGet_none {l : List (Int × Value)} {k : Int} : mGet l k = none ↔ ∀ p ∈ l, p.1 ≠ k := by
  unfold mGet
  rw [Option.map_eq_none_iff, List.find?_eq_none]
  simp
section
variable {P : Program} {w w' : World} {b : Nat} {l : List (Int × Value)} {t K E : TypeId}
theorem MapAt.lt (h : MapAt w b l) : b < w.heap.size := by
  obtain ⟨es, clock, hb, _⟩ := h
  exact (Array.getElem?_eq_some_iff.1 hb).1
theorem MapAt.of_block (h : MapAt w b l) (hk : w'.heap[b]? = w.heap[b]?) : MapAt w' b l := by
  obtain ⟨es, clock, hb, r⟩ := h
  exact ⟨es, clock, hk.trans hb, r⟩
theorem MapAt.below {B : Nat} (h : MapAt w b l) (hb : Below B w w') (hB : b < B) : MapAt w' b l := h.of_block (hb.block b hB)
theorem MapAt.kp {c : Nat} (h : MapAt w b l) (hk : Kp c w w') (hne : b ≠ c) : MapAt w' b l := h.of_block (hk.block b h.lt hne)
theorem MapAt.kpO {O : Nat → Prop} (h : MapAt w b l) (hk : KpO O w w') (hne : ¬ O b) : MapAt w' b l := h.of_block (hk.block b h.lt hne)
theorem MapAt.drew (h : MapAt w b l) : MapAt w.drew b l := h
theorem MapAt.drewN (h : MapAt w b l) (n : Nat) : MapAt (w.drewN n) b l := h
theorem MapAt.new (w : World) : MapAt (w.alloc (.map #[] 0)) w.heap.size [] := ⟨#[], 0, (heap_alloc w _).1, stamped_empty 0, by simp⟩
theorem MapAt.setCell (h : MapAt w b l) {a : Addr} (ha : b ≠ a.block) (u : Value) : MapAt (w.setCell a u) b l := h.of_block (heap_setCell_other w a b u ha)
theorem MapAt.ne_blk {t : TypeId} {cs : Array Value} (h : MapAt w b l) {g : Nat} (hg : BlkAt w g t cs) : g ≠ b := by
  rintro rfl
  obtain ⟨es, clock, hb, _⟩ := h
  unfold BlkAt at hg
  rw [hg] at hb
  cases hb
theorem keys_of {es : List MapEntry} (h : es.map (fun (e : MapEntry) => (e.key, e.val)) = l.map (fun p => (Value.int .i64 p.1, p.2))) : es.map (·.key) = l.map (fun p => Value.int .i64 p.1) := by
  have := congrArg (List.map Prod.fst) h
  simpa [List.map_map, Function.comp_def] using this
theorem isKey_of {es : List MapEntry} (h : es.map (fun (e : MapEntry) => (e.key, e.val)) = l.map (fun p => (Value.int .i64 p.1, p.2))) : ∀ x ∈ es, IsKey (.int .i64) x.key := by
  intro x hx
  have : x.key ∈ es.map (·.key) := List.mem_map.2 ⟨x, hx, rfl⟩
  rw [keys_of h] at this
  obtain ⟨p, _, e⟩ := List.mem_map.1 this
  rw [← e]
  exact rfl
theorem get_of_none {es : List MapEntry} (h : es.map (fun (e : MapEntry) => (e.key, e.val)) = l.map (fun p => (Value.int .i64 p.1, p.2))) {k : Int} (hn : ∀ x ∈ es, x.key ≠ .int .i64 k) : mGet l k = none := by
  rw [mGet_none]
  intro p hp e
  have : Value.int .i64 p.1 ∈ es.map (·.key) := by rw [keys_of h]; exact List.mem_map.2 ⟨p, hp, rfl⟩
  obtain ⟨x, hx, e2⟩ := List.mem_map.1 this
  exact hn x hx (by rw [e2, e])
theorem get_of_some {k : Int} : ∀ (l : List (Int × Value)) (es : List MapEntry), es.map (fun (e : MapEntry) => (e.key, e.val)) = l.map (fun p => (Value.int .i64 p.1, p.2)) → (es.map (·.key)).Nodup → ∀ (j : Nat) (e : MapEntry), es[j]? = some e → e.key = .int .i64 k → mGet l k = some e.val := by
  intro l
  induction l with
  | nil => intro es h _ j e hj; cases es with
    | nil => cases hj
    | cons _ _ => cases h
  | cons p l ih =>
    intro es h hn j e hj hk
    cases es with
    | nil => cases h
    | cons x es =>
      rw [List.map_cons, List.map_cons] at h
      injection h with h1 h2
      injection h1 with h3 h4
      rw [List.map_cons, List.nodup_cons] at hn
      unfold mGet
      cases j with
      | zero =>
        simp only [List.getElem?_cons_zero, Option.some.injEq] at hj
        subst hj
        rw [h3] at hk
        injection hk with _ hk
        rw [List.find?_cons_of_pos (by simpa using hk)]
        simp [h4]
      | succ j =>
        simp only [List.getElem?_cons_succ] at hj
        have hne : p.1 ≠ k := by
          intro e1
          apply hn.1
          rw [h3, e1, ← hk]
          exact List.mem_map.2 ⟨e, List.mem_of_getElem? hj, rfl⟩
        rw [List.find?_cons_of_neg (by simpa using hne)]
        exact ih es h2 hn.2 j e hj hk
theorem MapAt.nodup (h : MapAt w b l) : (l.map (·.1)).Nodup := by
  obtain ⟨es, clock, hb, hs, hm⟩ := h
  have h1 := hs.2.2
  rw [keys_of hm] at h1
  have : (l.map fun p => Value.int .i64 p.1) = (l.map (·.1)).map (Value.int .i64) := by simp [List.map_map, Function.comp_def]
  rw [this] at h1
  exact (List.pairwise_map.1 h1).imp (fun h e => h (by rw [e]))
theorem MapAt.run_lookup (h : MapAt w b l) (ht : P.underlying t = some (.map K E)) (hk : P.underlying K = some (.int .i64)) {z : Value} (hz : (zeroValue E).run P w = .ok z w) (k : Int) :
    (Instr.lookup t (.map (some b)) (.int .i64 k) true).run P w = .ok (.tuple #[(mGet l k).getD z, .bool (mGet l k).isSome]) w := by
  obtain ⟨es, clock, hb, hs, hm⟩ := h
  have hik := isKey_of hm
  have hkk : IsKey (.int .i64) (.int .i64 k) := rfl
  rcases findNow_spec hkk es.toList 0 hik with ⟨h1, h2⟩ | ⟨j, e, h1, h2, h3⟩
  · rw [get_of_none hm h2]
    simp [Instr.lookup, run_underlying ht, Go.MapKept.run_getObj_map hb, Go.MapKept.run_checkKey hk hkk, Go.MapKept.run_findKey hk h1, hz, Result.andThen]
  · rw [get_of_some l _ hm hs.2.2 j e h2 h3]
    simp [Instr.lookup, run_underlying ht, Go.MapKept.run_getObj_map hb, Go.MapKept.run_checkKey hk hkk, Go.MapKept.run_findKey hk h1, Result.andThen]
theorem MapAt.run_lookup1 (h : MapAt w b l) (ht : P.underlying t = some (.map K E)) (hk : P.underlying K = some (.int .i64)) {z : Value} (hz : (zeroValue E).run P w = .ok z w) (k : Int) :
    (Instr.lookup t (.map (some b)) (.int .i64 k) false).run P w = .ok ((mGet l k).getD z) w := by
  obtain ⟨es, clock, hb, hs, hm⟩ := h
  have hik := isKey_of hm
  have hkk : IsKey (.int .i64) (.int .i64 k) := rfl
  rcases findNow_spec hkk es.toList 0 hik with ⟨h1, h2⟩ | ⟨j, e, h1, h2, h3⟩
  · rw [get_of_none hm h2]
    simp [Instr.lookup, run_underlying ht, Go.MapKept.run_getObj_map hb, Go.MapKept.run_checkKey hk hkk, Go.MapKept.run_findKey hk h1, hz, Result.andThen]
  · rw [get_of_some l _ hm hs.2.2 j e h2 h3]
    simp [Instr.lookup, run_underlying ht, Go.MapKept.run_getObj_map hb, Go.MapKept.run_checkKey hk hkk, Go.MapKept.run_findKey hk h1, Result.andThen]
theorem MapAt.run_update (h : MapAt w b l) (ht : P.underlying t = some (.map K E)) (hk : P.underlying K = some (.int .i64)) (k : Int) (v : Value) (hn : mGet l k = none) :
    ∃ w', (Instr.mapUpdate t (.map (some b)) (.int .i64 k) v).run P w = .ok () w' ∧ MapAt w' b (l ++ [(k, v)]) ∧ Kp b w w' ∧ w'.heap.size = w.heap.size := by
  have hlt := h.lt
  obtain ⟨es, clock, hb, hs, hm⟩ := h
  have hik := isKey_of hm
  have hkk : IsKey (.int .i64) (.int .i64 k) := rfl
  rcases findNow_spec hkk es.toList 0 hik with ⟨h1, h2⟩ | ⟨j, e, h1, h2, h3⟩
  · refine ⟨{ w with heap := w.heap.setIfInBounds b (.map (es.push { key := .int .i64 k, val := v, born := clock }) (clock + 1)) }, ?_, ?_, ?_, ?_⟩
    · simp [Instr.mapUpdate, run_underlying ht, Go.MapKept.run_getObj_map hb, Go.MapKept.run_checkKey hk hkk, Go.MapKept.run_findKey hk h1, Go.MapKept.run_setObj_map _ hb, Result.andThen]
    · exact ⟨_, _, (heap_set hb).1, stamped_push hs h2, by rw [Array.toList_push, List.map_append, List.map_append, hm]; rfl⟩
    · exact ⟨rfl, rfl, rfl, by simp, fun i _ hi => (heap_set hb).2 i hi⟩
    · simp
  · rw [get_of_some l _ hm hs.2.2 j e h2 h3] at hn
    cases hn
theorem MapAt.size (h : MapAt w b l) : ∃ es clock, w.heap[b]? = some (.map es clock) ∧ es.size = l.length := by
  obtain ⟨es, clock, hb, hs, hm⟩ := h
  refine ⟨es, clock, hb, ?_⟩
  have := congrArg List.length hm
  simpa using this
theorem MapAt.run_len (h : MapAt w b l) (ht : P.underlying t = some (.map K E)) (ty : TypeId) : (Builtin.len_ #[t] ty #[.map (some b)]).run P w = .ok (.int .i64 l.length) w := by
  obtain ⟨es, clock, hb, hs⟩ := h.size
  simp [Builtin.len_, run_underlying ht, Go.MapKept.run_getObj_map hb, Result.andThen, hs, goInt]
variable {ops : Array Oper} {rest : List Oper} {o : Oper} {a : Act} {Q : Exit → Act → World → Prop}
theorem wpList_map_lookup (hg : o.guard = none) (x ix : Operand) (ho : o.op = .lookup t x ix true) (ht : P.underlying t = some (.map K E)) (hk : P.underlying K = some (.int .i64)) {z : Value} (hz : (zeroValue E).run P w = .ok z w) (h : MapAt w b l) (hx : a.eval x = .map (some b)) {k : Int} (hix : a.eval ix = .int .i64 k)
    (hK : wpList P ops Q rest (a.put o.dst (.tuple #[(mGet l k).getD z, .bool (mGet l k).isSome])) w) : wpList P ops Q (o :: rest) a w := by
  refine wpList_plain hg fun K' hK' => ?_
  unfold Oper.wp
  simp [execOp, ho, hx, hix, h.run_lookup ht hk hz k, Result.andThen]
  exact hK' _ _ hK
theorem wpList_map_update (hg : o.guard = none) (x ix v : Operand) (ho : o.op = .mapUpdate t x ix v ∨ o.op = .insert t x ix v) (ht : P.underlying t = some (.map K E)) (hk : P.underlying K = some (.int .i64)) (h : MapAt w b l) (hx : a.eval x = .map (some b)) {k : Int} (hix : a.eval ix = .int .i64 k) {u : Value} (hv : a.eval v = u) (hn : mGet l k = none)
    (hK : ∀ w', MapAt w' b (l ++ [(k, u)]) → Kp b w w' → w'.heap.size = w.heap.size → wpList P ops Q rest (a.put o.dst undef) w') : wpList P ops Q (o :: rest) a w := by
  refine wpList_plain hg fun K' hK' => ?_
  obtain ⟨w', hrun, r1, r2, r3⟩ := h.run_update ht hk k u hn
  unfold Oper.wp
  rcases ho with ho | ho
  · simp [execOp, ho, hx, hix, hv, hrun, Result.andThen]
    exact hK' _ _ (hK w' r1 r2 r3)
  · simp [execOp, ho, hx, hix, hv, hrun, Result.andThen]
    exact hK' _ _ (hK w' r1 r2 r3)
theorem wpList_map_update_g (hw : Region.wanted o (yielded ops a.tmps) = true) (x ix v : Operand) (ho : o.op = .mapUpdate t x ix v ∨ o.op = .insert t x ix v) (ht : P.underlying t = some (.map K E)) (hk : P.underlying K = some (.int .i64)) (h : MapAt w b l) (hx : a.eval x = .map (some b)) {k : Int} (hix : a.eval ix = .int .i64 k) {u : Value} (hv : a.eval v = u) (hn : mGet l k = none)
    (hK : ∀ w', MapAt w' b (l ++ [(k, u)]) → Kp b w w' → w'.heap.size = w.heap.size → wpList P ops Q rest (a.put o.dst undef) w') : wpList P ops Q (o :: rest) a w := by
  refine wpList_step fun K' hK' => ?_
  rw [if_pos hw]
  obtain ⟨w', hrun, r1, r2, r3⟩ := h.run_update ht hk k u hn
  unfold Oper.wp
  rcases ho with ho | ho
  · simp [execOp, ho, hx, hix, hv, hrun, Result.andThen]
    exact hK' _ _ (hK w' r1 r2 r3)
  · simp [execOp, ho, hx, hix, hv, hrun, Result.andThen]
    exact hK' _ _ (hK w' r1 r2 r3)
end
end Go.Proofs.YteeeikkapnchlaaDoor
