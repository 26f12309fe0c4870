/- records' readings; walks of Last, Next -/
import Derived.Test.YteeeikkapnchlaaDoorVoteB
namespace Go.Proofs.YteeeikkapnchlaaDoor
set_option linter.unusedSimpArgs false
set_option linter.unusedVariables false
open Go.RowKit Go.Sort

structure Rc where
  last : Vw
  pend : List Vw
/-- A record's five cells. -/
def RecAt (w : World) (b o : Nat) (r : Rc) : Prop := ∃ pa pn pc, (w.cell? ⟨b, o, none⟩ = some (.int .u64 r.last.num) ∧ w.cell? ⟨b, o + 1, none⟩ = some (.int .u64 r.last.ce) ∧ w.cell? ⟨b, o + 2, none⟩ = some (.int .i64 r.last.cr) ∧ w.cell? ⟨b, o + 3, none⟩ = some (.int .u64 r.last.mem) ∧ w.cell? ⟨b, o + 4, none⟩ = some (.slice pa pn pc)) ∧ RdV w pa pn pc r.pend
def RdR (w : World) (a : Option Addr) (n c : Nat) (l : List Rc) : Prop := (l.length = n ∧ n ≤ c ∧ c ≤ maxLen ∧ (a = none → n = 0 ∧ c = 0)) ∧ (n = 0 ∨ ∃ b off, a = some ⟨b, off, none⟩ ∧ b < w.heap.size ∧ ∀ i (h : i < l.length), RecAt w b (off + i * 5) l[i])
section
variable {w w' : World} {a : Option Addr} {n c : Nat} {l : List Rc}
theorem RecAt.below {b o : Nat} {r : Rc} (h : RecAt w b o r) (hb : Below w.heap.size w w') (hlt : b < w.heap.size) : RecAt w' b o r := by
  obtain ⟨pa, pn, pc, ⟨h0, h1, h2, h3, h4⟩, hr⟩ := h
  have e : ∀ i, w'.cell? ⟨b, i, none⟩ = w.cell? ⟨b, i, none⟩ := fun i => hb.cell (p := ⟨b, i, none⟩) hlt
  exact ⟨pa, pn, pc, ⟨(e _).trans h0, (e _).trans h1, (e _).trans h2, (e _).trans h3, (e _).trans h4⟩, hr.below hb (Nat.le_refl _)⟩
theorem RdR.len (h : RdR w a n c l) : l.length = n := h.1.1
theorem RdR.le_max (h : RdR w a n c l) : n ≤ maxLen := Nat.le_trans h.1.2.1 h.1.2.2.1
theorem RdR.below (h : RdR w a n c l) (hb : Below w.heap.size w w') : RdR w' a n c l := by
  refine ⟨h.1, ?_⟩
  rcases h.2 with h0 | ⟨b, off, rfl, hlt, hc⟩
  · exact .inl h0
  · exact .inr ⟨b, off, rfl, Nat.lt_of_lt_of_le hlt hb.size, fun i hi => (hc i hi).below hb hlt⟩
theorem RdR.addr (h : RdR w a n c l) (hn : 0 < n) : ∃ b off, a = some ⟨b, off, none⟩ ∧ b < w.heap.size ∧ ∀ i (h : i < l.length), RecAt w b (off + i * 5) l[i] := by
  rcases h.2 with h | h
  · omega
  · exact h
theorem RdR.nil (w : World) : RdR w none 0 0 [] := ⟨⟨rfl, Nat.le_refl _, Nat.zero_le _, fun _ => ⟨rfl, rfl⟩⟩, .inl rfl⟩
end
theorem Tryd.viewI (v : Vw) : (Tryd.prog.info? 35).map (·.size) = some (vwA v).size := by show _ = some 4; kernel_rfl
theorem Tryd.viewZ : (Tryd.prog.info? 35).map (·.zero) = some (some (.agg (vwA .zero))) := by kernel_rfl
theorem vwA_one (v : Vw) : (vwA v).all (·.oneCell') = true := by simp [vwA, Value.oneCell']
def lastL : List Rc → Vw
  | [] => .zero
  | r :: l => l.foldl (fun b r => if b.num < r.last.num then r.last else b) r.last
theorem lastL_one (r : Rc) : lastL [r] = r.last := rfl
theorem lastL_snoc {l : List Rc} (h : l ≠ []) (r : Rc) : lastL (l ++ [r]) = if (lastL l).num < r.last.num then r.last else lastL l := by
  cases l with
  | nil => exact absurd rfl h
  | cons x l => rw [List.cons_append, lastL, List.foldl_append]; rfl
set_option maxHeartbeats 1600000 in
set_option maxRecDepth 100000 in
theorem last_any (a : Option Addr) (n c : Nat) (l : List Rc) (w : World) (hr : RdR w a n c l) :
    Calls Tryd.prog 33 #[.slice a n c] w fun e w' => e = .returned (.agg (vwA (lastL l))) ∧ Below w.heap.size w w' := by
  have hmx := hr.le_max
  unfold maxLen at hmx
  have hl := Lib.hid hr.len
  have hb1 : Below w.heap.size w ((w.alloc (.cells (vwA .zero) 35)).alloc (.cells (vwA .zero) 35)) := ((Below.refl _ _).alloc (Nat.le_refl _) _).alloc (by simp) _
  have hA : BlkAt ((w.alloc (.cells (vwA .zero) 35)).alloc (.cells (vwA .zero) 35)) w.heap.size 35 (vwA .zero) := BlkAt.alloc (BlkAt.new w _ _) _
  have hB : BlkAt ((w.alloc (.cells (vwA .zero) 35)).alloc (.cells (vwA .zero) 35)) (w.heap.size + 1) 35 (vwA .zero) := by simpa using BlkAt.new (w.alloc (.cells (vwA .zero) 35)) 35 (vwA .zero)
  go_enter Tryd.func33, Tryd.ntmps33
  go_wp2_with (first
    | (refine wpList_blk_alloc rfl rfl Tryd.viewZ w.heap.size rfl ?_)
    | (refine wpList_blk_alloc rfl rfl Tryd.viewZ (w.heap.size + 1) (by simp) ?_; generalize (w.alloc _).alloc _ = w1 at *))
  go_loopw [4, 5, 8] (fun _ _ i wr => ∃ (k : Nat) (v : Vw), k ≤ n ∧ i = .int .i64 k ∧ Hid (v = lastL (l.take k)) ∧ BlkAt wr (w.heap.size + 1) 35 (vwA v) ∧ BlkAt wr w.heap.size 35 (vwA .zero) ∧ Below w.heap.size w wr) (fun _ _ i _ => n - (intOf i).toNat)
  case atStart => exact ⟨0, .zero, Nat.zero_le _, rfl, rfl, hB, hA, hb1⟩
  case round =>
    clear hA hB hb1
    obtain ⟨k, v, hk, rfl, hv, hB, hA, hbr⟩ := hrel
    by_cases hlt : k < n
    · have hkl : k < l.length := by rw [hl.out]; exact hlt
      obtain ⟨bs, off, rfl, _, hcs⟩ := (hr.below hbr).addr (by omega)
      obtain ⟨pa, pn, pc, ⟨c0, c1, c2, c3, c4⟩, _⟩ := hcs k hkl
      clear hcs
      have v0 : wr.cell? ⟨w.heap.size + 1, 0, none⟩ = some (.int .u64 v.num) := hB.cell rfl
      have hkI : (k : Int) < n := by omega
      have hbsz := hB.lt
      have HS := Lib.hid (show lastL (l.take (k + 1)) = if k = 0 ∨ v.num < l[k].last.num then l[k].last else v from by
        rw [List.take_succ_eq_append_getElem hkl]
        by_cases h0 : k = 0
        · subst h0
          rw [if_pos (.inl rfl)]
          exact lastL_one _
        · rw [lastL_snoc (fun e => by have := congrArg List.length e; rw [List.length_take] at this; simp only [List.length_nil] at this; omega), ← hv.out]
          by_cases h1 : v.num < l[k].last.num
          · rw [if_pos h1, if_pos (.inr h1)]
          · rw [if_neg h1, if_neg (by rintro (h | h); exact h0 h; exact h1 h)])
      generalize l[k] = r at *
      obtain ⟨u, pd⟩ := r
      simp only at c0 c1 c2 c3 HS
      by_cases h0 : k = 0
      · have HZ := Lib.hid (HS.out.trans (if_pos (.inl h0)))
        subst h0
        simp only [Nat.zero_mul, Nat.add_zero] at c0 c1 c2 c3 c4
        clear HS
        go_wp2_with (first
          | (refine wpList_blk_store rfl (.tmp 3) (.tmp 24) rfl rfl rfl (BlkAt.alloc hB _) (Tryd.viewI .zero) rfl (by simp [Value.oneCell']) ?_; intro w4 hB4 hK4 hsz4))
        have hB5 : BlkAt w4 (w.heap.size + 1) 35 (vwA u) := hB4
        have hA5 : BlkAt w4 w.heap.size 35 (vwA .zero) := hK4.blk (BlkAt.alloc hA _) (by omega)
        have hb5 : Below w.heap.size w w4 := Kp.below (hbr.alloc hbr.size _) hK4 (Nat.le_succ _) (by simp; have := hbr.size; omega)
        clear hB4 hK4 hsz4 hB hA hbr
        go_wp2
        go_roundw
        case rel => exact ⟨_, u, by omega, by go_num, HZ.out.symm, hB5, hA5, hb5⟩
        case measure => simp [intOf]; omega
      · have h0B : ((k : Int) == 0) = false := by simpa using h0
        by_cases h1 : v.num < u.num
        · have HZ := Lib.hid (HS.out.trans (if_pos (.inr h1)))
          clear HS h0
          go_wp2_with (first
            | (refine wpList_blk_store rfl (.tmp 3) (.tmp 24) rfl rfl rfl (BlkAt.alloc hB _) (Tryd.viewI .zero) rfl (by simp [Value.oneCell']) ?_; intro w4 hB4 hK4 hsz4))
          have hB5 : BlkAt w4 (w.heap.size + 1) 35 (vwA u) := hB4
          have hA5 : BlkAt w4 w.heap.size 35 (vwA .zero) := hK4.blk (BlkAt.alloc hA _) (by omega)
          have hb5 : Below w.heap.size w w4 := Kp.below (hbr.alloc hbr.size _) hK4 (Nat.le_succ _) (by simp; have := hbr.size; omega)
          clear hB4 hK4 hsz4 hB hA hbr
          go_wp2
          go_roundw
          case rel => exact ⟨_, u, by omega, by go_num, HZ.out.symm, hB5, hA5, hb5⟩
          case measure => simp [intOf]; omega
        · have HZ := Lib.hid (HS.out.trans (if_neg (by rintro (h | h); exact h0 h; exact h1 h)))
          clear HS h0
          go_wp2
          go_roundw
          case rel => exact ⟨k + 1, v, by omega, by go_num, HZ.out.symm, hB.alloc _, hA.alloc _, hbr.alloc hbr.size _⟩
          case measure => simp [intOf]; omega
    · obtain rfl : k = n := by omega
      go_wp2_with (first
        | (refine wpList_blk_load rfl (.tmp 3) rfl Tryd.underlying35 rfl rfl hB (Tryd.viewI _) ?_)
        | (refine wpList_blk_store rfl (.tmp 2) (.tmp 26) rfl rfl rfl hA (Tryd.viewI _) rfl (vwA_one _) ?_; intro w4 hA4 hK4 hsz4))
      refine bodyPost_ret (results_cell_row rfl _ _ w.heap.size 35 _ (0, 0) _ rfl hA4 Tryd.underlying35 rfl (Tryd.viewI _)) rfl ⟨?_, ?_⟩
      · rw [hv.out, List.take_of_length_le (by have := hl.out; omega)]
      · exact Kp.below hbr hK4 (Nat.le_refl _) hbr.size
end Go.Proofs.YteeeikkapnchlaaDoor
