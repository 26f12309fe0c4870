/- filter: FilterOne: helpers of the end -/
import Derived.Test.YteeeikkapnchlaaDoorFilTa
namespace Go.Proofs.YteeeikkapnchlaaDoor
set_option linter.unusedSimpArgs false
set_option linter.unusedVariables false
open Go.RowKit Go.Sort
theorem flat_piece (os : List Ow) {k : Nat} (hk : k < os.length) : ((os.flatMap owC).drop (k * 29)).take (1 * 29) = owC os[k] := by
  apply List.ext_getElem?
  intro i
  rw [List.getElem?_take, List.getElem?_drop]
  split
  · rename_i hi
    rw [flatMap_get owC_len _ _ _ (by omega), List.getElem?_eq_getElem hk]; rfl
  · rw [List.getElem?_eq_none]; rw [owC_len]; omega
theorem RdO.part {F : Nat → Prop} {w : World} {b off n c : Nat} {os : List Ow} (h : RdO F w (some ⟨b, off, none⟩) n c os) {k : Nat} (hk : k < os.length) : RdO F w (some ⟨b, off + k * 29, none⟩) 1 (c - k) [os[k]] := by
  have hl := h.len
  have h1 := h.1.1.part k 1 (by omega)
  rw [flat_piece os hk] at h1
  refine ⟨⟨by rw [List.flatMap_cons, List.flatMap_nil, List.append_nil]; exact h1, fun _ g off' e => ?_⟩, fun o ho => ?_⟩
  · injection e with e
    injection e with e
    subst e
    exact h.1.2 (by omega) _ off rfl
  · obtain rfl := List.mem_singleton.1 ho
    exact h.2 _ (List.getElem_mem hk)
/-- Is a view in a record? -/
def thereB (r : Rc) (v : Vw) : Bool := veq r.last v || r.pend.any (fun u => veq u v)
theorem there_of {r : Rc} {v : Vw} {fm : Bool} (h1 : veq r.last v = fm) (h2 : fm = true ∨ v ∈ r.pend) : thereB r v = true := by
  unfold thereB
  rcases h2 with h2 | h2
  · rw [h1, h2]; rfl
  · rw [show r.pend.any (fun u => veq u v) = true from List.any_eq_true.2 ⟨v, h2, veq_eq.2 rfl⟩, Bool.or_true]
theorem any_take_succ {p : Vw → Bool} {l : List Vw} {k : Nat} (h : k < l.length) : (l.take (k + 1)).any p = ((l.take k).any p || p l[k]) := by
  rw [List.take_succ_eq_append_getElem h, List.any_append]
  simp
theorem Tryd.confGb : Tryd.prog.eqGuardType Tryd.prog.depth 30 = false := by kernel_rfl
theorem run_neq_c7 (w : World) : (binOp .neq 30 (.agg #[.int .u64 7, .int .i64 0]) (.agg #[.int .u64 7, .int .i64 0])).run Tryd.prog w = .ok (.bool false) w := by kernel_rfl
theorem RdV.range {w : World} {b off n c : Nat} {l : List Vw} (h : RdV w (some ⟨b, off, none⟩) n c l) (k : Nat) (hk : k < l.length) : w.rangeAt b (off + k * 4) [.int .u64 l[k].num, .int .u64 l[k].ce, .int .i64 l[k].cr, .int .u64 l[k].mem] := by
  obtain ⟨c0, c1, c2, c3⟩ := h.at k hk
  intro j u hu
  rcases j with _ | _ | _ | _ | j
  · injection hu with hu; subst hu; exact c0
  · injection hu with hu; subst hu; exact c1
  · injection hu with hu; subst hu; exact c2
  · injection hu with hu; subst hu; exact c3
  · simp at hu
theorem vw_range {w : World} {b : Nat} {t : TypeId} {cs : Array Value} {v : Vw} (h : BlkAt w b t cs) (h0 : cs[0]? = some (.int .u64 v.num)) (h1 : cs[1]? = some (.int .u64 v.ce)) (h2 : cs[2]? = some (.int .i64 v.cr)) (h3 : cs[3]? = some (.int .u64 v.mem)) : w.rangeAt b 0 [.int .u64 v.num, .int .u64 v.ce, .int .i64 v.cr, .int .u64 v.mem] :=
  h.range (fun j u hj => by
    rw [Nat.zero_add]
    rcases j with _ | _ | _ | _ | j
    · injection hj with hj; subst hj; exact h0
    · injection hj with hj; subst hj; exact h1
    · injection hj with hj; subst hj; exact h2
    · injection hj with hj; subst hj; exact h3
    · simp at hj)
end Go.Proofs.YteeeikkapnchlaaDoor
