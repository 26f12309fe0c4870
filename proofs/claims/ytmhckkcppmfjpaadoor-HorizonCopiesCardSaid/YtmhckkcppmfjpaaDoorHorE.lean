/- the horizon: the walks of slices.IndexFunc and slices.DeleteFunc with count's function -/
import Derived.Test.YtmhckkcppmfjpaaDoorHorD
namespace Go.Proofs.YtmhckkcppmfjpaaDoor
open Go.RowKit Go.Sort

structure PmsOk (l : List Pm) : Prop where
  st : ∀ x ∈ l, x.st < 18446744073709551616
  sent : ∀ x ∈ l, x.sent < 4294967296
theorem hfold_lt {c h : Nat} {l : List Pm} (hl : PmsOk l) (hh : h < 18446744073709551616) : hfold c h l < 18446744073709551616 := by
  have h1 := hl.st
  clear hl
  induction l generalizing h with
  | nil => exact hh
  | cons x l ih =>
    show hfold c (if pmQ c x = true then max h x.st else h) l < _
    refine ih ?_ (fun y hy => h1 y (List.mem_cons_of_mem _ hy))
    split
    · exact Nat.max_lt.2 ⟨hh, h1 x (List.mem_cons_self ..)⟩
    · exact hh
theorem PmsOk.take {l : List Pm} (h : PmsOk l) (k : Nat) : PmsOk (l.take k) := ⟨fun x hx => h.st x (List.mem_of_mem_take hx), fun x hx => h.sent x (List.mem_of_mem_take hx)⟩
theorem PmsOk.filter {l : List Pm} (h : PmsOk l) (q : Pm → Bool) : PmsOk (l.filter q) := ⟨fun x hx => h.st x (List.mem_filter.1 hx).1, fun x hx => h.sent x (List.mem_filter.1 hx).1⟩
section
variable {w : World} {cb b off h c : Nat} {cs : Array Value}
set_option maxHeartbeats 1600000 in
set_option maxRecDepth 100000 in
theorem idx_none (a : Option Addr) (n cp : Nat) (l : List Pm) (hl : PmsOk l) (hc : c < 4294967296) (hno : ∀ x ∈ l, pmQ c x = false) (hr : RdP w a n cp l) (hB : BlkAt w cb 54 #[.pointer (some ⟨b, off, none⟩)]) (hM : MkAt w b off cs h c) :
    Calls Tryd.prog 33 #[.slice a n cp, .func (Fn.func 31) #[] #[.pointer (some ⟨cb, 0, none⟩)]] w fun e w' => e = .returned (.int .i64 (-1)) ∧ Below w.heap.size w w' := by
  have hmx := Rd.le_max hr
  unfold maxLen at hmx
  have hln := Lib.hid hr.len
  have HNO := Lib.hid hno
  clear hno
  go_enter Tryd.func33, Tryd.ntmps33
  go_wp2
  go_loopw [5, 8] (fun _ i wr => ∃ k : Nat, k ≤ n ∧ i = .int .i64 k ∧ Below w.heap.size w wr) (fun _ i _ => n - (intOf i).toNat)
  case atStart => exact ⟨0, Nat.zero_le _, rfl, Below.refl _ _⟩
  case round =>
    obtain ⟨k, hk, rfl, hbr⟩ := hrel
    by_cases hlt : k < n
    · have hkl : k < l.length := by rw [hln.out]; exact hlt
      obtain ⟨bs, o2, rfl, _⟩ := Rd.addr hr (by omega)
      obtain ⟨c0, c1⟩ := RdP.at (show RdP wr _ n cp l from Rd.below hr hbr (Nat.le_refl _)) k hkl
      have hkI : (k : Int) < n := by omega
      have HD := Lib.hid (cnt_no l[k] (hl.sent _ (List.getElem_mem hkl)) hc (HNO.out _ (List.getElem_mem hkl)) (hB.below hbr hB.lt) (hM.below hbr))
      generalize l[k] = x at *
      go_wp2_with fail
      refine HD.out.mono ?_
      rintro e w' ⟨rfl, hbb⟩
      go_wp2
      go_roundw
      case rel => exact ⟨k + 1, by omega, by go_num, belS hbr hbb⟩
      case measure => simp [intOf]; omega
    · obtain rfl : k = n := by omega
      go_wp2
      go_ret
      exact ⟨rfl, hbr⟩
set_option maxHeartbeats 1600000 in
set_option maxRecDepth 100000 in
theorem idx_some (a : Option Addr) (n cp : Nat) (l : List Pm) (i0 : Nat) (hl : PmsOk l) (hc : c < 4294967296) (hh : h < 18446744073709551616) (hi0 : i0 < l.length) (hq : pmQ c l[i0] = true) (hno : ∀ i (hi : i < i0), pmQ c (l[i]'(by omega)) = false) (hr : RdP w a n cp l) (hB : BlkAt w cb 54 #[.pointer (some ⟨b, off, none⟩)]) (hM : MkAt w b off cs h c) :
    Calls Tryd.prog 33 #[.slice a n cp, .func (Fn.func 31) #[] #[.pointer (some ⟨cb, 0, none⟩)]] w fun e w' => e = .returned (.int .i64 i0) ∧ MkAt w' b off cs (max h l[i0].st) c ∧ Kp b w w' := by
  have hmx := Rd.le_max hr
  unfold maxLen at hmx
  have hln := Lib.hid hr.len
  have hin : i0 < n := by rw [← hln.out]; exact hi0
  have HNO := Lib.hid hno
  have HQ := Lib.hid hq
  clear hno hq
  obtain ⟨hmax, HMX⟩ : ∃ m, Hid (max h l[i0].st = m) := ⟨_, Lib.hid rfl⟩
  rw [HMX.out]
  go_enter Tryd.func33, Tryd.ntmps33
  go_wp2
  go_loopw [5, 8] (fun _ i wr => ∃ k : Nat, k ≤ i0 ∧ i = .int .i64 k ∧ Below w.heap.size w wr) (fun _ i _ => n - (intOf i).toNat)
  case atStart => exact ⟨0, Nat.zero_le _, rfl, Below.refl _ _⟩
  case round =>
    obtain ⟨k, hk, rfl, hbr⟩ := hrel
    have hkl : k < l.length := by omega
    obtain ⟨bs, o2, rfl, _⟩ := Rd.addr hr (by omega)
    obtain ⟨c0, c1⟩ := RdP.at (show RdP wr _ n cp l from Rd.below hr hbr (Nat.le_refl _)) k hkl
    have hkI : (k : Int) < n := by omega
    by_cases hlt : k < i0
    · have HD := Lib.hid (cnt_no l[k] (hl.sent _ (List.getElem_mem hkl)) hc (HNO.out _ hlt) (hB.below hbr hB.lt) (hM.below hbr))
      generalize l[k] = x at *
      go_wp2_with fail
      refine HD.out.mono ?_
      rintro e w' ⟨rfl, hbb⟩
      go_wp2
      go_roundw
      case rel => exact ⟨k + 1, by omega, by go_num, belS hbr hbb⟩
      case measure => simp [intOf]; omega
    · obtain rfl : i0 = k := by omega
      have HD := Lib.hid (cnt_yes l[i0] (hl.sent _ (List.getElem_mem hkl)) hc (hl.st _ (List.getElem_mem hkl)) hh HQ.out (hB.below hbr hB.lt) (hM.below hbr))
      rw [HMX.out] at HD
      clear HMX HQ HNO
      generalize l[i0] = x at *
      go_wp2_with fail
      refine HD.out.mono ?_
      rintro e w' ⟨rfl, hm, hk⟩
      go_wp2
      go_ret
      exact ⟨rfl, hm, (Kp.ofBelow hbr).trans hk⟩
end
theorem flat_setP (x : Pm) : ∀ (m : List Pm) (i : Nat), i < m.length → ((m.flatMap pmF).set (i * 2) (.int .u64 x.st)).set (i * 2 + 1) (.int .u32 x.sent) = (m.set i x).flatMap pmF := by
  intro m
  induction m with
  | nil => intro i h; simp at h
  | cons v m ih =>
    intro i h
    cases i with
    | zero => rfl
    | succ i =>
      have := ih i (by simpa using h)
      simp only [List.flatMap_cons, List.set_cons_succ]
      rw [← this]
      have e : ∀ (xs : List Value) (j : Nat) (u : Value), (pmF v ++ xs).set ((i + 1) * 2 + j) u = pmF v ++ xs.set (i * 2 + j) u := fun xs j u => by
        rw [List.set_append_right _ _ (by rw [pmF_len]; omega), pmF_len]
        congr 2
        omega
      have e0 : ∀ (xs : List Value) (u : Value), (pmF v ++ xs).set ((i + 1) * 2) u = pmF v ++ xs.set (i * 2) u := fun xs u => e xs 0 u
      rw [e0, e]
theorem run_clear_pm (w : World) (ty : TypeId) (g o n c : Nat) (hn : 0 < n) (hc : ∀ j, j < n * 2 → (w.cell? ⟨g, o + j, none⟩).isSome = true) (hf : ∀ j, w.frozen? ⟨g, j, none⟩ = false) :
    (Builtin.clear_ #[44] ty #[.slice (some ⟨g, o, none⟩) n c]).run Tryd.prog w = .ok (.tuple #[]) (w.setCells g o (Builtin.zeroCells #[.int .u64 0, .int .u32 0] n).toList) := by
  have hv : ∀ w, (zeroValue 56).run Tryd.prog w = .ok (.agg #[.int .u64 0, .int .u32 0]) w := fun w => by kernel_rfl
  have hst := run_storeCells_cells (P := Tryd.prog) g o (Builtin.zeroCells #[.int .u64 0, .int .u32 0] n).toList 0 w (by rw [zc_len]; show ∀ j, j < n * 2 → _; intro j hj; rw [Nat.add_zero]; exact hc j hj) (by intro j _; exact hf _) (by
    intro v hv'
    rw [Builtin.zeroCells, Array.toList_map, List.mem_map] at hv'
    obtain ⟨i, _, rfl⟩ := hv'
    have h4 : i % (#[Value.int .u64 0, Value.int .u32 0] : Array Value).size = 0 ∨ i % (#[Value.int .u64 0, Value.int .u32 0] : Array Value).size = 1 := by
      have : i % (#[Value.int .u64 0, Value.int .u32 0] : Array Value).size < 2 := Nat.mod_lt _ (by decide)
      omega
    rcases h4 with h | h <;> rw [h] <;> rfl)
  simp only [Nat.add_zero] at hst
  obtain ⟨m, rfl⟩ : ∃ m, n = m + 1 := ⟨n - 1, by omega⟩
  simp [Builtin.clear_, run_underlying Tryd.underlying44, hv, Value.cells, hst]
end Go.Proofs.YtmhckkcppmfjpaaDoor
