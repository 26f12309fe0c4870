/- names: the walk of NamesOne -/
import Derived.Test.YtcgfpolklfhppaaDoorNameM
import Derived.Test.YtcgfpolklfhppaaDoorNameG
import Derived.Test.YtcgfpolklfhppaaDoorNameKa
import Derived.Test.YtcgfpolklfhppaaDoorHeld
namespace Go.Proofs.YtcgfpolklfhppaaDoor
open Go.RowKit Go.Sort

theorem Tryd.bareB (x ho : Nat) (ha dr : Bool) : Tryd.prog.built 48 [(2, .int .u32 x), (4, .bool ha), (3, .int .u64 ho), (5, .bool dr)] = some #[.int .i64 0, .string ⟨#[]⟩, .int .u32 x, .int .u64 ho, .bool ha, .bool dr, .int .u64 0, .int .u64 0, .int .i64 0, .int .u64 0, .slice none 0 0, .int .u64 0, .int .u64 0, .int .i64 0, .int .u64 0, .int .u64 0, .int .i64 0, .int .i64 0] := by kernel_rfl
theorem own_lit0 {w : World} {B : Nat} {e : TypeId} {sz : Nat} (hB : B ≤ w.heap.size) : (w.alloc (.cells #[] e)).ownsRow B e sz (.slice (some ⟨w.heap.size, 0, none⟩) 0 0) 0 [] :=
  ⟨by simp, .inr ⟨w.heap.size, 0, #[], rfl, hB, BlkAt.new w e #[], Nat.le_refl _, Nat.zero_le _, by simp, by simp⟩⟩
theorem names_eq {n m : Nat} (hm : m < 18446744073709551616) {a : Option Addr} {cn c : Nat} {l : List It} (hw : ∀ x ∈ l, x.Wf) (sure : Bool) {w : World} (hr : RdI w a cn c l) (hT : Tab w) :
    Calls Tryd.prog 14 #[.int .u64 n, .int .u64 m, .slice a cn c, .bool sure] w fun e w' => ∃ a' c', e = .returned (.slice a' (cardN m) c') ∧ RdM w' a' (cardN m) c' (namesN n m l sure) ∧ Below w.heap.size w w' := by
  refine (names_any n m hm a cn c l hw sure w hr hT).mono ?_
  rintro e w' ⟨v, rfl, ho, hb⟩
  obtain ⟨a', c', rfl, h⟩ := Rd.own ho
  exact ⟨a', c', rfl, h, hb⟩
set_option maxHeartbeats 20000000 in
set_option maxRecDepth 100000 in
theorem one_any (n m : Nat) (hn : n < 18446744073709551616) (hm : m < 18446744073709551616) (a : Option Addr) (cn c : Nat) (l : List It) (hw : ∀ x ∈ l, x.Wf) (sure : Bool) (ma : Option Addr) (mn mc : Nat) (ml : List It) (hmw : ∀ x ∈ ml, x.Wf) (w : World) (hr : RdI w a cn c l) (hrm : RdI w ma mn mc ml) (hT : Tab w) :
    Calls Tryd.prog 4 #[.int .u64 n, .int .u64 m, .slice a cn c, .bool sure, .slice ma mn mc] w fun e w' => e = .returned (.bool true) ∧ Below w.heap.size w w' := by
  have hl := Lib.hid (hr.len hw)
  have hml := Lib.hid (hrm.len hmw)
  have hmx := Rd.le_max hr
  have hmx2 := Rd.le_max hrm
  unfold maxLen at hmx hmx2
  have hAw := Lib.hid (awake_any w hT)
  go_enter Tryd.func4, Tryd.ntmps4
  go_wp2_with fail
  refine hAw.out.mono ?_
  rintro e w1 ⟨rfl, hb1⟩
  clear hAw
  by_cases hgt : 100 < cn
  · have hgtI : (100 : Int) < cn := by omega
    go_wp2
    go_ret
    exact ⟨rfl, hb1⟩
  have hgtI : ¬ (100 : Int) < cn := by omega
  by_cases hgt2 : 100 < mn
  · have hgtI2 : (100 : Int) < mn := by omega
    go_wp2
    go_ret
    exact ⟨rfl, hb1⟩
  have hgtI2 : ¬ (100 : Int) < mn := by omega
  go_wp2
  go_loopw [12, 13] (fun o i wr => ∃ k : Nat, k ≤ cn ∧ i = .int .i64 k ∧ wr.ownsRow w1.heap.size 48 18 o k (((l.take k).map bareIt).flatMap (·.cs)) ∧ Below w1.heap.size w1 wr) (fun _ i _ => cn - (intOf i).toNat)
  case atStart => exact ⟨0, Nat.zero_le _, rfl, World.ownsRow_nil _ _ _ _, Below.refl _ _⟩
  case round => as_aux_lemma =>
    obtain ⟨k, hk, rfl, hown, hbr⟩ := hrel
    by_cases hlt : k < cn
    · have hkl : k < l.length := by rw [hl.out]; exact hlt
      have hkI : (k : Int) < cn := by omega
      have hrr : RdI wr a cn c l := Rd.below (Rd.below hr hb1 (Nat.le_refl _)) hbr (Nat.le_refl _)
      obtain ⟨b2, off2, rfl, _⟩ := Rd.addr hrr (by omega)
      have hR := RdI.range hrr hw k hkl
      have hyw := hw _ (List.getElem_mem hkl)
      have r2 := hR 2 _ hyw.c2
      have r3 := hR 3 _ hyw.c3
      have r4 := hR 4 _ hyw.c4
      have r5 := hR 5 _ hyw.c5
      have HT := Lib.hid (take_snocI hkl)
      have HC : Hid (bareC l[k] = bareC ⟨[], l[k].inc, l[k].holds, l[k].has, l[k].direct⟩) := rfl
      rw [HC.out] at HT
      generalize l[k].inc = x at *
      generalize l[k].holds = ho at *
      generalize l[k].has = ha at *
      generalize l[k].direct = dr at *
      have HKP := Lib.hid (fun W (h : Below w1.heap.size w1 W) => show W.cell? ⟨b2, off2 + k * 18 + 2, none⟩ = some (.int .u32 x) ∧ W.cell? ⟨b2, off2 + k * 18 + 3, none⟩ = some (.int .u64 ho) ∧ W.cell? ⟨b2, off2 + k * 18 + 4, none⟩ = some (.bool ha) ∧ W.cell? ⟨b2, off2 + k * 18 + 5, none⟩ = some (.bool dr) from by
        have hbl : b2 < w1.heap.size := by
          rcases (Rd.below hr hb1 (Nat.le_refl _)).2 with h0 | ⟨b', o', he, hlt', _⟩
          · omega
          · simp only [Option.some.injEq, Addr.mk.injEq] at he; omega
        have e : ∀ i, W.cell? ⟨b2, i, none⟩ = wr.cell? ⟨b2, i, none⟩ := fun i => (h.cell (p := ⟨b2, i, none⟩) hbl).trans (hbr.cell (p := ⟨b2, i, none⟩) hbl).symm
        exact ⟨(e _).trans r2, (e _).trans r3, (e _).trans r4, (e _).trans r5⟩)
      have hBld := Tryd.bareB x ho ha dr
      have h1c := one18 (v0 := .int .i64 0) (v1 := .string ⟨#[]⟩) (v2 := .int .u32 x) (v3 := .int .u64 ho) (v4 := .bool ha) (v5 := .bool dr) (v6 := .int .u64 0) (v7 := .int .u64 0) (v8 := .int .i64 0) (v9 := .int .u64 0) (v10 := .slice none 0 0) (v11 := .int .u64 0) (v12 := .int .u64 0) (v13 := .int .i64 0) (v14 := .int .u64 0) (v15 := .int .u64 0) (v16 := .int .i64 0) (v17 := .int .i64 0) rfl
      clear hR hyw HC hrr
      have hsz := hbr.size
      have o6 := Lib.hid (hown.drew.alloc (.cells #[.int .i64 0, .string ⟨#[]⟩, .int .u32 x, .int .u64 ho, .bool ha, .bool dr, .int .u64 0, .int .u64 0, .int .i64 0, .int .u64 0, .slice none 0 0, .int .u64 0, .int .u64 0, .int .i64 0, .int .u64 0, .int .u64 0, .int .i64 0, .int .i64 0] 48))
      have b6 : Hid (Below w1.heap.size w1 (wr.drew.alloc (.cells #[.int .i64 0, .string ⟨#[]⟩, .int .u32 x, .int .u64 ho, .bool ha, .bool dr, .int .u64 0, .int .u64 0, .int .i64 0, .int .u64 0, .slice none 0 0, .int .u64 0, .int .u64 0, .int .i64 0, .int .u64 0, .int .u64 0, .int .i64 0, .int .i64 0] 48))) := Lib.hid (hbr.drew.alloc hsz (.cells #[.int .i64 0, .string ⟨#[]⟩, .int .u32 x, .int .u64 ho, .bool ha, .bool dr, .int .u64 0, .int .u64 0, .int .i64 0, .int .u64 0, .slice none 0 0, .int .u64 0, .int .u64 0, .int .i64 0, .int .u64 0, .int .u64 0, .int .i64 0, .int .i64 0] 48))
      have hlv := Lib.hid (Rd.blk1 (w := wr.drew) (e := 48) (cs := bareC ⟨[], x, ho, ha, dr⟩) rfl rfl)
      go_wp2
      have hbD := Lib.hid hbr.drew
      have HS0 := Lib.hid (show ∀ W, Below w1.heap.size w1 W → W.cell? ⟨b2, off2 + k * 18 + 2, none⟩ = some (.int .u32 x) ∧ W.cell? ⟨b2, off2 + k * 18 + 3, none⟩ = some (.int .u64 ho) ∧ W.cell? ⟨b2, off2 + k * 18 + 4, none⟩ = some (.bool ha) ∧ W.cell? ⟨b2, off2 + k * 18 + 5, none⟩ = some (.bool dr) from HKP.out)
      have S0 := HS0.out _ hbD.out
      refine wp_region_held_drew (S := fun W => W.cell? ⟨b2, off2 + k * 18 + 2, none⟩ = some (.int .u32 x) ∧ W.cell? ⟨b2, off2 + k * 18 + 3, none⟩ = some (.int .u64 ho) ∧ W.cell? ⟨b2, off2 + k * 18 + 4, none⟩ = some (.bool ha) ∧ W.cell? ⟨b2, off2 + k * 18 + 5, none⟩ = some (.bool dr)) (by kernel_rfl) S0 ?_
      intro hHeld
      (refine wpAnyH_take (i := 0) (v := ?_) rfl (by kernel_rfl) (by kernel_rfl) (by kernel_rfl) (fun _ _ _ h => h) (Or.inl ⟨by rfl, ?_⟩) (by assumption) ?_; rotate_left; (focus (intro w hSw; obtain ⟨s1, s2, s3, s4⟩ := hSw; go_simp; (try with_reducible rfl))); (try simp only [Act.put, List.getElem_toArray, List.getElem_cons_zero, List.getElem_cons_succ, List.setIfInBounds_toArray, List.set_cons_zero, List.set_cons_succ]))
      (refine wpAnyH_take (i := 1) (v := ?_) rfl (by kernel_rfl) (by kernel_rfl) (by kernel_rfl) (fun _ _ _ h => h) (Or.inl ⟨by rfl, ?_⟩) (by assumption) ?_; rotate_left; (focus (intro w hSw; obtain ⟨s1, s2, s3, s4⟩ := hSw; go_simp; (try with_reducible rfl))); (try simp only [Act.put, List.getElem_toArray, List.getElem_cons_zero, List.getElem_cons_succ, List.setIfInBounds_toArray, List.set_cons_zero, List.set_cons_succ]))
      (refine wpAnyH_take (i := 2) (v := ?_) rfl (by kernel_rfl) (by kernel_rfl) (by kernel_rfl) (fun _ _ _ h => h) (Or.inl ⟨by rfl, ?_⟩) (by assumption) ?_; rotate_left; (focus (intro w hSw; obtain ⟨s1, s2, s3, s4⟩ := hSw; go_simp; (try with_reducible rfl))); (try simp only [Act.put, List.getElem_toArray, List.getElem_cons_zero, List.getElem_cons_succ, List.setIfInBounds_toArray, List.set_cons_zero, List.set_cons_succ]))
      (refine wpAnyH_take (i := 3) (v := ?_) rfl (by kernel_rfl) (by kernel_rfl) (by kernel_rfl) (fun _ _ _ h => h) (Or.inl ⟨by rfl, ?_⟩) (by assumption) ?_; rotate_left; (focus (intro w hSw; obtain ⟨s1, s2, s3, s4⟩ := hSw; go_simp; (try with_reducible rfl))); (try simp only [Act.put, List.getElem_toArray, List.getElem_cons_zero, List.getElem_cons_succ, List.setIfInBounds_toArray, List.set_cons_zero, List.set_cons_succ]))
      (refine wpAnyH_take (i := 4) (v := ?_) rfl (by kernel_rfl) (by kernel_rfl) (by kernel_rfl) (fun _ _ _ h => h) (Or.inl ⟨by rfl, ?_⟩) (by assumption) ?_; rotate_left; (focus (intro w hSw; obtain ⟨s1, s2, s3, s4⟩ := hSw; go_simp; (try with_reducible rfl))); (try simp only [Act.put, List.getElem_toArray, List.getElem_cons_zero, List.getElem_cons_succ, List.setIfInBounds_toArray, List.set_cons_zero, List.set_cons_succ]))
      (refine wpAnyH_take (i := 5) (v := ?_) rfl (by kernel_rfl) (by kernel_rfl) (by kernel_rfl) (fun _ _ _ h => h) (Or.inl ⟨by rfl, ?_⟩) (by assumption) ?_; rotate_left; (focus (intro w hSw; obtain ⟨s1, s2, s3, s4⟩ := hSw; go_simp; (try with_reducible rfl))); (try simp only [Act.put, List.getElem_toArray, List.getElem_cons_zero, List.getElem_cons_succ, List.setIfInBounds_toArray, List.set_cons_zero, List.set_cons_succ]))
      (refine wpAnyH_take (i := 6) (v := ?_) rfl (by kernel_rfl) (by kernel_rfl) (by kernel_rfl) (fun _ _ _ h => h) (Or.inl ⟨by rfl, ?_⟩) (by assumption) ?_; rotate_left; (focus (intro w hSw; obtain ⟨s1, s2, s3, s4⟩ := hSw; go_simp; (try with_reducible rfl))); (try simp only [Act.put, List.getElem_toArray, List.getElem_cons_zero, List.getElem_cons_succ, List.setIfInBounds_toArray, List.set_cons_zero, List.set_cons_succ]))
      (refine wpAnyH_take (i := 7) (v := ?_) rfl (by kernel_rfl) (by kernel_rfl) (by kernel_rfl) (fun _ _ _ h => h) (Or.inl ⟨by rfl, ?_⟩) (by assumption) ?_; rotate_left; (focus (intro w hSw; obtain ⟨s1, s2, s3, s4⟩ := hSw; go_simp; (try with_reducible rfl))); (try simp only [Act.put, List.getElem_toArray, List.getElem_cons_zero, List.getElem_cons_succ, List.setIfInBounds_toArray, List.set_cons_zero, List.set_cons_succ]))
      (refine wpAnyH_take (i := 8) (v := ?_) rfl (by kernel_rfl) (by kernel_rfl) (by kernel_rfl) (fun _ _ _ h => h) (Or.inl ⟨by rfl, ?_⟩) (by assumption) ?_; rotate_left; (focus (intro w hSw; obtain ⟨s1, s2, s3, s4⟩ := hSw; go_simp; (try with_reducible rfl))); (try simp only [Act.put, List.getElem_toArray, List.getElem_cons_zero, List.getElem_cons_succ, List.setIfInBounds_toArray, List.set_cons_zero, List.set_cons_succ]))
      (refine wpAnyH_take (i := 9) (v := ?_) rfl (by kernel_rfl) (by kernel_rfl) (by kernel_rfl) (fun _ _ _ h => h) (Or.inl ⟨by rfl, ?_⟩) (by assumption) ?_; rotate_left; (focus (intro w hSw; obtain ⟨s1, s2, s3, s4⟩ := hSw; go_simp; (try with_reducible rfl))); (try simp only [Act.put, List.getElem_toArray, List.getElem_cons_zero, List.getElem_cons_succ, List.setIfInBounds_toArray, List.set_cons_zero, List.set_cons_succ]))
      (refine wpAnyH_take (i := 10) (v := ?_) rfl (by kernel_rfl) (by kernel_rfl) (by kernel_rfl) (fun _ _ _ h => h) (Or.inl ⟨by rfl, ?_⟩) (by assumption) ?_; rotate_left; (focus (intro w hSw; obtain ⟨s1, s2, s3, s4⟩ := hSw; go_simp; (try with_reducible rfl))); (try simp only [Act.put, List.getElem_toArray, List.getElem_cons_zero, List.getElem_cons_succ, List.setIfInBounds_toArray, List.set_cons_zero, List.set_cons_succ]))
      (refine wpAnyH_take (i := 11) (v := ?_) rfl (by kernel_rfl) (by kernel_rfl) (by kernel_rfl) (fun _ _ _ h => h) (Or.inl ⟨by rfl, ?_⟩) (by assumption) ?_; rotate_left; (focus (intro w hSw; obtain ⟨s1, s2, s3, s4⟩ := hSw; go_simp; (try with_reducible rfl))); (try simp only [Act.put, List.getElem_toArray, List.getElem_cons_zero, List.getElem_cons_succ, List.setIfInBounds_toArray, List.set_cons_zero, List.set_cons_succ]))
      (refine wpAnyH_take (i := 12) (v := ?_) rfl (by kernel_rfl) (by kernel_rfl) (by kernel_rfl) (fun _ _ _ h => h) (Or.inl ⟨by rfl, ?_⟩) (by assumption) ?_; rotate_left; (focus (intro w hSw; obtain ⟨s1, s2, s3, s4⟩ := hSw; go_simp; (try with_reducible rfl))); (try simp only [Act.put, List.getElem_toArray, List.getElem_cons_zero, List.getElem_cons_succ, List.setIfInBounds_toArray, List.set_cons_zero, List.set_cons_succ]))
      (refine wpAnyH_take (i := 13) (v := ?_) rfl (by kernel_rfl) (by kernel_rfl) (by kernel_rfl) (fun _ _ _ h => h) (Or.inl ⟨by rfl, ?_⟩) (by assumption) ?_; rotate_left; (focus (intro w hSw; obtain ⟨s1, s2, s3, s4⟩ := hSw; go_simp; (try with_reducible rfl))); (try simp only [Act.put, List.getElem_toArray, List.getElem_cons_zero, List.getElem_cons_succ, List.setIfInBounds_toArray, List.set_cons_zero, List.set_cons_succ]))
      (refine wpAnyH_take (i := 14) (v := ?_) rfl (by kernel_rfl) (by kernel_rfl) (by kernel_rfl) (fun _ _ _ h => h) (Or.inl ⟨by rfl, ?_⟩) (by assumption) ?_; rotate_left; (focus (intro w hSw; obtain ⟨s1, s2, s3, s4⟩ := hSw; go_simp; (try with_reducible rfl))); (try simp only [Act.put, List.getElem_toArray, List.getElem_cons_zero, List.getElem_cons_succ, List.setIfInBounds_toArray, List.set_cons_zero, List.set_cons_succ]))
      (refine wpAnyH_take (i := 15) (v := ?_) rfl (by kernel_rfl) (by kernel_rfl) (by kernel_rfl) (fun _ _ _ h => h) (Or.inl ⟨by rfl, ?_⟩) (by assumption) ?_; rotate_left; (focus (intro w hSw; obtain ⟨s1, s2, s3, s4⟩ := hSw; go_simp; (try with_reducible rfl))); (try simp only [Act.put, List.getElem_toArray, List.getElem_cons_zero, List.getElem_cons_succ, List.setIfInBounds_toArray, List.set_cons_zero, List.set_cons_succ]))
      (refine wpAnyH_take (i := 16) (v := ?_) rfl (by kernel_rfl) (by kernel_rfl) (by kernel_rfl) (fun _ _ _ h => h) (Or.inl ⟨by rfl, ?_⟩) (by assumption) ?_; rotate_left; (focus (intro w hSw; obtain ⟨s1, s2, s3, s4⟩ := hSw; go_simp; (try with_reducible rfl))); (try simp only [Act.put, List.getElem_toArray, List.getElem_cons_zero, List.getElem_cons_succ, List.setIfInBounds_toArray, List.set_cons_zero, List.set_cons_succ]))
      (refine wpAnyH_take (i := 17) (v := ?_) rfl (by kernel_rfl) (by kernel_rfl) (by kernel_rfl) (fun _ _ _ h => h) (Or.inl ⟨by rfl, ?_⟩) (by assumption) ?_; rotate_left; (focus (intro w hSw; obtain ⟨s1, s2, s3, s4⟩ := hSw; go_simp; (try with_reducible rfl))); (try simp only [Act.put, List.getElem_toArray, List.getElem_cons_zero, List.getElem_cons_succ, List.setIfInBounds_toArray, List.set_cons_zero, List.set_cons_succ]))
      (refine wpAnyH_take (i := 18) (v := ?_) rfl (by kernel_rfl) (by kernel_rfl) (by kernel_rfl) (fun _ _ _ h => h) (Or.inl ⟨by rfl, ?_⟩) (by assumption) ?_; rotate_left; (focus (intro w hSw; obtain ⟨s1, s2, s3, s4⟩ := hSw; go_simp; (try with_reducible rfl))); (try simp only [Act.put, List.getElem_toArray, List.getElem_cons_zero, List.getElem_cons_succ, List.setIfInBounds_toArray, List.set_cons_zero, List.set_cons_succ]))
      (refine wpAnyH_take (i := 19) (v := ?_) rfl (by kernel_rfl) (by kernel_rfl) (by kernel_rfl) (fun _ _ _ h => h) (Or.inl ⟨by rfl, ?_⟩) (by assumption) ?_; rotate_left; (focus (intro w hSw; obtain ⟨s1, s2, s3, s4⟩ := hSw; go_simp; (try with_reducible rfl))); (try simp only [Act.put, List.getElem_toArray, List.getElem_cons_zero, List.getElem_cons_succ, List.setIfInBounds_toArray, List.set_cons_zero, List.set_cons_succ]))
      (refine wpAnyH_take (i := 20) (v := ?_) rfl (by kernel_rfl) (by kernel_rfl) (by kernel_rfl) (fun _ _ _ h => h) (Or.inl ⟨by rfl, ?_⟩) (by assumption) ?_; rotate_left; (focus (intro w hSw; obtain ⟨s1, s2, s3, s4⟩ := hSw; go_simp; (try with_reducible rfl))); (try simp only [Act.put, List.getElem_toArray, List.getElem_cons_zero, List.getElem_cons_succ, List.setIfInBounds_toArray, List.set_cons_zero, List.set_cons_succ]))
      refine wpAnyH_take (i := 21) (v := .agg #[.int .i64 0, .string ⟨#[]⟩, .int .u32 x, .int .u64 ho, .bool ha, .bool dr, .int .u64 0, .int .u64 0, .int .i64 0, .int .u64 0, .slice none 0 0, .int .u64 0, .int .u64 0, .int .i64 0, .int .u64 0, .int .u64 0, .int .i64 0, .int .i64 0]) rfl (by kernel_rfl) (by kernel_rfl) (by kernel_rfl) (fun _ _ _ h => h) ?_ (by assumption) ?_
      · exact yieldsIf_build (by rfl) 48 #[(2, .tmp 37), (4, .tmp 42), (3, .tmp 47), (5, .tmp 52)] rfl (by rw [List.map_toArray]; exact hBld)
      (try simp only [Act.put, List.getElem_toArray, List.getElem_cons_zero, List.getElem_cons_succ, List.setIfInBounds_toArray, List.set_cons_zero, List.set_cons_succ])
      (refine wpAnyH_ready (rs := [22]) (by kernel_rfl) (by simp) ?_; refine AllReadyH.cons rfl (fun K hK => ?_) AllReadyH.nil)
      refine step_buildSlice1 (cs := #[.int .i64 0, .string ⟨#[]⟩, .int .u32 x, .int .u64 ho, .bool ha, .bool dr, .int .u64 0, .int .u64 0, .int .i64 0, .int .u64 0, .slice none 0 0, .int .u64 0, .int .u64 0, .int .i64 0, .int .u64 0, .int .u64 0, .int .i64 0, .int .i64 0]) (some 54) rfl rfl 23 48 (.tmp 53) rfl Tryd.itE (by decide) (by rfl) rfl ?_
      (try simp only [Act.put, List.getElem_toArray, List.getElem_cons_zero, List.getElem_cons_succ, List.setIfInBounds_toArray, List.set_cons_zero, List.set_cons_succ])
      refine hK.out _ _ (HS0.out _ b6.out) (fun hHeld7 => ?_)
      clear hK K hHeld S0
      (refine wpAnyH_ready (rs := [23]) (by kernel_rfl) (by simp) ?_; refine AllReadyH.cons rfl (fun K hK => ?_) AllReadyH.nil)
      refine step_append_rd (base := w1.heap.size) (v := u12) (n := k) (xs := ((l.take k).map bareIt).flatMap (·.cs)) (b := wr.drew.heap.size) (off := 0) (m := 1) (c := 1) (news := bareC ⟨[], x, ho, ha, dr⟩) Tryd.itE rfl (.tmp 32) (.tmp 54) rfl (by rfl) o6.out (by rfl) hlv.out (by decide) h1c (by unfold maxLen; omega) (by omega) b6.out.size ?_
      intro v' w' hown' hg'
      have hgb := Lib.hid (belG b6.out hg' b6.out.size (fun g hg => (o6.out.lt g hg).1))
      (try simp only [Act.put, List.getElem_toArray, List.getElem_cons_zero, List.getElem_cons_succ, List.setIfInBounds_toArray, List.set_cons_zero, List.set_cons_succ])
      refine hK.out _ _ (HS0.out _ hgb.out) (fun hHeld8 => ?_)
      clear hK K hHeld7
      (refine wpAnyH_take (i := 24) (v := ?_) rfl (by kernel_rfl) (by kernel_rfl) (by kernel_rfl) (fun _ _ _ h => h) (Or.inl ⟨by rfl, ?_⟩) (by assumption) ?_; rotate_left; (focus (intro w hSw; obtain ⟨s1, s2, s3, s4⟩ := hSw; go_simp; (try with_reducible rfl))); (try simp only [Act.put, List.getElem_toArray, List.getElem_cons_zero, List.getElem_cons_succ, List.setIfInBounds_toArray, List.set_cons_zero, List.set_cons_succ]))
      refine wpAnyH_done (by kernel_rfl) ?_ _
      replace hown' := Lib.hid hown'
      clear o6 b6 hlv hbr hown hg'
      go_wp2
      go_roundw
      case rel => exact ⟨k + 1, by omega, by go_num, by rw [HT.out]; exact hown'.out, hgb.out⟩
      case measure => simp [intOf]; omega
    · obtain rfl : k = cn := by omega
      have hlt : l.take k = l := List.take_of_length_le (by rw [hl.out]; exact Nat.le_refl _)
      rw [hlt] at hown
      clear hlt
      obtain ⟨ba, bc, rfl, hbare⟩ := Rd.own hown
      have hbw : ∀ x ∈ l.map bareIt, x.Wf := fun x hx => by obtain ⟨y, hy, rfl⟩ := List.mem_map.1 hx; exact bareIt_wf (hw y hy)
      have hE1 := Lib.hid (show namesN n m (l.map bareIt) sure = namesN n m l sure ∧ stayN n m (l.map bareIt) = stayN n m l from ⟨namesN_congr fun k _ => foI_bare l k, stayN_congr fun k _ => foI_bare l k⟩)
      have hst := stayN_lt n m l
      have HRI := Lib.hid (fun W (h : Below w1.heap.size w1 W) => show RdI W a k c l from Rd.below (Rd.below hr hb1 (Nat.le_refl _)) h (Nat.le_refl _))
      have HRM := Lib.hid (fun W (h : Below w1.heap.size w1 W) => show RdI W ma mn mc ml from Rd.below (Rd.below hrm hb1 (Nat.le_refl _)) h (Nat.le_refl _))
      have HRB := Lib.hid (fun W (h : Below wr.heap.size wr W) => show RdI W ba k bc (l.map bareIt) from Rd.below hbare h (Nat.le_refl _))
      have HTB := Lib.hid (fun W (h : Below w1.heap.size w1 W) => show Tab W from hT.below (belS hb1 h) hT.1)
      have HFIN := Lib.hid (fun W (h : Below w1.heap.size w1 W) => belS hb1 h)
      have HN1 := Lib.hid (fun W (h : Below w1.heap.size w1 W) => names_eq (n := n) hm hw sure (HRI.out W h) (HTB.out W h))
      have HN2 := Lib.hid (fun W (h : Below w1.heap.size w1 W) (h2 : Below wr.heap.size wr W) => names_eq (n := n) hm hbw sure (HRB.out W h2) (HTB.out W h))
      have HS1 := Lib.hid (fun W (h : Below w1.heap.size w1 W) => stay_any n m hm a k c l hw W (HRI.out W h) (HTB.out W h))
      have HS2 := Lib.hid (fun W (h : Below w1.heap.size w1 W) (h2 : Below wr.heap.size wr W) => stay_any n m hm ba k bc _ hbw W (HRB.out W h2) (HTB.out W h))
      have HJ1 := Lib.hid (fun W (h : Below w1.heap.size w1 W) => joins_any n m hm a k c l hw W (HRI.out W h) (HTB.out W h))
      have HSz := Lib.hid (fun W => size_any m hm W)
      rw [hE1.out.1] at HN2
      rw [hE1.out.2] at HS2
      have HALL : Hid (cardN m ≤ k → namesN n m (l ++ ml) sure = namesN n m l sure ∧ stayN n m (l ++ ml) = stayN n m l) := fun h => by
        have hl2 := hl.out
        have hlen : (memN m).length = cardN m := memN_len m
        exact ⟨namesN_congr fun j hj => foI_app l ml (by omega), stayN_congr fun j hj => foI_app l ml (by omega)⟩
      have HAW : Hid (∀ x ∈ l ++ ml, x.Wf) := fun x hx => (List.mem_append.1 hx).elim (hw x) (hmw x)
      have HN3 := Lib.hid (fun W v cv (h : Below w1.heap.size w1 W) (h2 : RdI W v (k + mn) cv (l ++ ml)) => names_eq (n := n) hm HAW.out sure h2 (HTB.out W h))
      have HJ3 := Lib.hid (fun W v cv (h : Below w1.heap.size w1 W) (h2 : RdI W v (k + mn) cv (l ++ ml)) => joins_any n m hm v (k + mn) cv (l ++ ml) HAW.out W h2 (HTB.out W h))
      have h1c : ∀ (L : List It), (∀ x ∈ L, x.Wf) → ∀ u ∈ L.flatMap (·.cs), u.oneCell' = true := fun L hL u hu => by
        obtain ⟨x, hx, hu⟩ := List.mem_flatMap.1 hu
        exact (hL x hx).one u hu
      have h1l := Lib.hid (h1c l hw)
      have h1m := Lib.hid (h1c ml hmw)
      clear hr hrm hT hbare hb1 hE1 hst hw hmw hbw hown h1c
      generalize hln : namesN n m l sure = ln at *
      generalize hss : stayN n m l = ss at *
      replace hln := Lib.hid hln
      replace hss := Lib.hid hss
      go_wp2_with fail
      refine (HN1.out _ hbr).mono ?_
      rintro e w2 ⟨a1, c1, rfl, q1, b2⟩
      go_wp2_with fail
      refine (HN2.out _ (belS hbr b2) b2).mono ?_
      rintro e w3 ⟨a2, c2, rfl, q2, b3⟩
      replace q1 : RdM w3 a1 (cardN m) c1 ln := Rd.below q1 b3 (Nat.le_refl _)
      replace b3 := belS b2 b3
      go_wp2_with fail
      refine (rnames_eq ln a1 _ c1 a2 c2 _ q1 q2).mono ?_
      rintro e w4 ⟨rfl, b4⟩
      replace b4 := belS b3 b4
      clear q1 q2 b2 b3 HN2
      go_wp2_with fail
      refine (HS1.out _ (belS hbr b4)).mono ?_
      rintro e w5 ⟨rfl, b5⟩
      replace b5 := belS b4 b5
      go_wp2_with fail
      refine (HS2.out _ (belS hbr b5) b5).mono ?_
      rintro e w6 ⟨rfl, b6⟩
      replace b6 := belS b5 b6
      clear b4 b5 HS1 HS2 HRB
      go_wp2_with fail
      refine (HSz.out _).mono ?_
      rintro e w7 ⟨rfl, rfl⟩
      have b7 := belS hbr b6
      clear hbr b6
      by_cases hlc : k < cardN m
      · have hlcI : (k : Int) < cardN m := by omega
        go_wp2
        go_ret
        exact ⟨rfl, HFIN.out _ b7⟩
      · have hlcI : ¬ (k : Int) < cardN m := by omega
        have HA := Lib.hid (HALL.out (by omega))
        have q1 := HRI.out _ b7
        have q2 := HRM.out _ b7
        have o0 := own_lit0 (w := w6) (e := 48) (sz := 18) b7.size
        have b8 : Below w1.heap.size w1 (w6.alloc (.cells #[] 48)) := b7.alloc b7.size _
        have q1' : Rd (w6.alloc (.cells #[] 48)) 18 a k c (l.flatMap (·.cs)) := Rd.alloc q1 _
        clear HSz HALL
        go_wp2_with (first
          | (refine wpList_append_rd Tryd.itE rfl (.tmp 84) (.tmp 85) rfl o0 rfl q1' rfl h1l.out (by unfold maxLen; omega) (by omega) b8.size ?_; intro v1 x1 o1 g1; replace b8 := belG b8 g1 b8.size (fun g hg => (o0.lt g hg).1); clear q1' g1; have q2' := HRM.out _ b8)
          | (refine wpList_append_rd Tryd.itE rfl (.tmp 86) (.tmp 87) rfl o1 rfl q2' rfl h1m.out (by unfold maxLen; omega) (by omega) b8.size ?_; intro v2 x2 o2 g2; replace b8 := belG b8 g2 b8.size (fun g hg => (o1.lt g hg).1); clear q2' g2; obtain ⟨a9, c9, rfl, q9⟩ := Rd.own o2))
        have q0 : RdI x2 a9 (k + mn) c9 (l ++ ml) := by
          show Rd x2 18 a9 (k + mn) c9 ((l ++ ml).flatMap (·.cs))
          rw [List.flatMap_append]
          simpa using q9
        clear q9 o0 o1 o2 q1 q2 h1l h1m HRM b7
        have HA1 := HA.out.1
        have HA2 := HA.out.2
        rw [HA1] at HN3
        rw [HA2] at HJ3
        clear HA HA1 HA2
        refine (HN3.out _ _ _ b8 q0).mono ?_
        rintro e x3 ⟨a1, c1, rfl, q1, b9⟩
        have b93 := belS b8 b9
        go_wp2_with fail
        refine (HN1.out _ b93).mono ?_
        rintro e x4 ⟨a2, c2, rfl, q2, b10⟩
        replace q1 : RdM x4 a1 (cardN m) c1 ln := Rd.below q1 b10 (Nat.le_refl _)
        replace b9 := belS b9 b10
        go_wp2_with fail
        refine (rnames_eq ln a1 _ c1 a2 c2 _ q1 q2).mono ?_
        rintro e x5 ⟨rfl, b11⟩
        replace b9 := belS b9 b11
        clear q1 q2 b10 b11 b93
        replace q0 : RdI x5 a9 (k + mn) c9 (l ++ ml) := Rd.below q0 b9 (Nat.le_refl _)
        replace b9 := belS b8 b9
        go_wp2_with fail
        refine (HJ3.out _ _ _ b9 q0).mono ?_
        rintro e x6 ⟨rfl, b12⟩
        replace b9 := belS b9 b12
        go_wp2_with fail
        refine (HJ1.out _ b9).mono ?_
        rintro e x7 ⟨rfl, b13⟩
        replace b9 := belS b9 b13
        go_wp2
        go_ret
        exact ⟨rfl, HFIN.out _ b9⟩
theorem one_law (x y : Int) (a : Option Addr) (n c : Nat) (sure : Bool) (ma : Option Addr) (mn mc : Nat) (w : World) (hT : Tab w) (hx : (Lit.int .u64 x).wf = true) (hy : (Lit.int .u64 y).wf = true) (hl : ∃ l, RSl RItem 18 w a n c l) (hm : ∃ l, RSl RItem 18 w ma mn mc l) :
    Calls Tryd.prog 4 #[.int .u64 x, .int .u64 y, .slice a n c, .bool sure, .slice ma mn mc] w fun e w' => e = .returned (.bool true) ∧ Below w.heap.size w w' := by
  obtain ⟨l, hl⟩ := hl
  obtain ⟨L, h1, h2⟩ := hl.its (fun _ _ _ h => h.it)
  obtain ⟨l2, hm⟩ := hm
  obtain ⟨M, h3, h4⟩ := hm.its (fun _ _ _ h => h.it)
  obtain ⟨x, rfl, gx⟩ := u64n hx
  obtain ⟨y, rfl, gy⟩ := u64n hy
  exact one_any x y gx gy a n c L h2 sure ma mn mc M h4 w h1 h3 hT
end Go.Proofs.YtcgfpolklfhppaaDoor
