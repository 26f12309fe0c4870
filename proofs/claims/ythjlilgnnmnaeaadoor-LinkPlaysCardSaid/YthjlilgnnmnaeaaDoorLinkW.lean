/- walks of the reference's window: Next -/
import Derived.Test.YthjlilgnnmnaeaaDoorLinkV
namespace Go.Proofs.YthjlilgnnmnaeaaDoor
open Go.RowKit

theorem results_row2 {P : Program} {fn : Func} {p q r : Tmp} {ty : TypeId} (h : fn.results = #[.cell p ty, .tmp q, .tmp r]) (tmps : Array Value) (w : World) (g : Nat) (t : TypeId) (cs : Array Value) (fr : Nat × Nat) (d : TypeDesc)
    (hp : tmps.getD p undef = .pointer (some ⟨g, 0, none⟩)) (hg : w.heap[g]? = some (.cells cs t fr))
    (hu : P.underlying ty = some d) (hd : (match d with | .struct _ | .array _ _ => true | _ => false) = true) (hi : (P.info? ty).map (·.size) = some cs.size) :
    (results fn tmps).run P w = .ok (.tuple #[.agg cs, tmps.getD q undef, tmps.getD r undef]) w := by
  have hp' : tmps[p]?.getD undef = .pointer (some ⟨g, 0, none⟩) := by simpa using hp
  simp [results, h, hp', asAddr, run_loadVar_row w g t ty cs fr d hg hu hd hi, Result.andThen]
section
variable {P : Program} {md : Region.Mode} {ops : Array Oper} {Q : Exit → Act → World → Prop} {S : World → Prop}
/-- The only one that may come up is a store of a whole block. -/
theorem wpAnyH_store {i : Nat} {o : Oper} {fuel : Nat} {listed : Array Bool} {a : Act} {w : World} (hr : Region.ready md ops listed = [i]) (ho : ops[i]? = some o) (hw : Region.wanted o (yielded ops a.tmps) = true)
    {t : TypeId} (x y : Operand) (hs : o.op = .store t x y) {b : Nat} (hx : a.eval x = .pointer (some ⟨b, 0, none⟩)) {t' : TypeId} {old cs : Array Value} (hy : a.eval y = .agg cs) (hb : BlkAt w b t' old)
    (hi : (P.info? t).map (·.size) = some cs.size) (hz : old.size = cs.size) (h1 : cs.all (·.oneCell') = true)
    (hS : S (w.setRow b cs)) (h : wpAnyH P md ops Q S fuel (listed.setIfInBounds i true) (a.put o.dst undef) (w.setRow b cs)) : wpAnyH P md ops Q S (fuel + 1) listed a w := by
  refine wpAnyH_ready (rs := [i]) hr (by simp) (AllReadyH.cons ho (fun K hK => ?_) AllReadyH.nil)
  rw [if_pos hw]
  exact wp_store_row t x y hs b cs hx hy t' old hb hi hz h1 (hK.out _ _ hS (fun _ => h))
end
/-- What Next gives. -/
def WS.nextR (s : WS) (r : Int) : Value := if s.room r = true then .tuple #[.agg (refC s.next), .int .u32 ((s.sent : Int) + 1), .int .i64 0] else .tuple #[.agg (refC s), .int .u32 0, .int .i64 6]

set_option maxHeartbeats 800000 in
set_option maxRecDepth 100000 in
theorem rnext_no (s : WS) (hs : s.Ok) (r : Int) (w : World) (hr1 : -9223372036854775808 ≤ r) (hr2 : r ≤ 9223372036854775807) (hm : s.room r = false) :
    Calls Tryd.prog 13 #[.agg (refC s), .int .i64 r] w fun e w' => e = .returned (.tuple #[.agg (refC s), .int .u32 0, .int .i64 6]) ∧ Below w.heap.size w w' := by
  have h0 := ref2_0 w s
  have h1 := ref2_1 w s
  have hb := ref2_b w s
  have hz := ref2_z w s
  have HR := fun W => rroom_any s hs r W hr1 hr2
  rw [hm] at HR
  go_enter Tryd.func13, Tryd.ntmps13
  go_wp2_with (first
    | (refine wpList_blk_box rfl (.tmp 0) rfl rfl w.heap.size rfl ?_)
    | (refine wpList_blk_alloc rfl rfl Tryd.refZ (w.heap.size + 1) (by simp) ?_; change wpList _ _ _ _ _ (ref2 w s); generalize ref2 w s = w1 at *)
    | (refine wpList_blk_load rfl (.tmp 2) rfl Tryd.underlying32 rfl rfl h0 (Tryd.refI _) ?_)
    | (go_at_call 11; refine (HR _).mono ?_; rintro e w2 ⟨rfl, hb2⟩; replace h0 := h0.below hb2 h0.lt; replace h1 := h1.below hb2 h1.lt; replace hz := Nat.le_trans (Nat.le_of_eq hz.symm) hb2.size; replace hb := belS hb (hb2.mono (Nat.le_refl _)); clear hb2)
    | (refine wpList_blk_store rfl (.tmp 4) (.tmp 11) rfl rfl rfl h1 (Tryd.refI _) (by rw [refC_size, refC_size]) (refC_one _) ?_; intro w3 hB hK hsz))
  refine bodyPost_ret (results_row2 rfl _ _ (w.heap.size + 1) 32 _ (0, 0) _ rfl hB Tryd.underlying32 rfl (Tryd.refI _)) rfl ⟨rfl, ?_⟩
  exact Kp.below hb hK (Nat.le_succ _) (by omega)
set_option maxHeartbeats 800000 in
set_option maxRecDepth 100000 in
theorem rnext_yes (s : WS) (hs : s.Ok) (r : Int) (w : World) (hr1 : -9223372036854775808 ≤ r) (hr2 : r ≤ 9223372036854775807) (hm : s.room r = true) :
    Calls Tryd.prog 13 #[.agg (refC s), .int .i64 r] w fun e w' => e = .returned (.tuple #[.agg (refC s.next), .int .u32 ((s.sent : Int) + 1), .int .i64 0]) ∧ Below w.heap.size w w' := by
  have h0 := ref2_0 w s
  have h1 := ref2_1 w s
  have hb := ref2_b w s
  have hz := ref2_z w s
  have hsent := hs.sent
  have HR := fun W => rroom_any s hs r W hr1 hr2
  rw [hm] at HR
  go_enter Tryd.func13, Tryd.ntmps13
  go_wp2_with (first
    | (refine wpList_blk_box rfl (.tmp 0) rfl rfl w.heap.size rfl ?_)
    | (refine wpList_blk_alloc rfl rfl Tryd.refZ (w.heap.size + 1) (by simp) ?_; change wpList _ _ _ _ _ (ref2 w s); generalize ref2 w s = w1 at *)
    | (refine wpList_blk_load rfl (.tmp 2) rfl Tryd.underlying32 rfl rfl h0 (Tryd.refI _) ?_)
    | (go_at_call 11; refine (HR _).mono ?_; rintro e w2 ⟨rfl, hb2⟩; replace h0 := h0.below hb2 h0.lt; replace h1 := h1.below hb2 h1.lt; replace hz := Nat.le_trans (Nat.le_of_eq hz.symm) hb2.size; replace hb := belS hb (hb2.mono (Nat.le_refl _)); clear hb2; have c3 := h0.c3; have fz := h0.fz 66))
  have hset := BlkAt.set h0 66 (.int .u32 ((s.sent : Int) + 1))
  rw [refC_next] at hset
  have hoth := BlkAt.other h1 (a := ⟨w.heap.size, 66, none⟩) (by simp) (.int .u32 ((s.sent : Int) + 1))
  have hb3 : Below w.heap.size w (w2.setCell ⟨w.heap.size, 66, none⟩ (.int .u32 ((s.sent : Int) + 1))) := hb.setCell (Nat.le_refl _) _
  have hz3 : w.heap.size + 2 ≤ (w2.setCell ⟨w.heap.size, 66, none⟩ (.int .u32 ((s.sent : Int) + 1))).heap.size := by simpa [World.setCell] using hz
  clear h0 h1 hb hz fz
  generalize w2.setCell ⟨w.heap.size, 66, none⟩ (.int .u32 ((s.sent : Int) + 1)) = w4 at *
  have hset' : RefAt w4 w.heap.size s.next := hset
  have HLd := Lib.hid (fun W (k : RefAt W w.heap.size s.next) => k.load)
  have hc3 : ∀ W, RefAt W w.heap.size s.next → W.cell? ⟨w.heap.size, 66, none⟩ = some (.int .u32 ((s.sent : Int) + 1)) := fun W k => k.c3
  refine wp_region_noPanic ?_
  refine wp_region_held_drew (S := fun W => RefAt W w.heap.size s.next) (by kernel_rfl) (hset'.drewN 1) (fun hH => ?_)
  refine wpAnyH_take (i := 0) (v := .agg (refC s.next)) rfl (by kernel_rfl) (by kernel_rfl) (by kernel_rfl) (fun _ _ _ h => h) (yields_load (by rfl) _ _ rfl _ rfl _ HLd.out) (by assumption) ?_
  try simp only [Act.put, List.getElem_toArray, List.getElem_cons_succ, List.getElem_cons_zero, List.setIfInBounds_toArray, List.set_cons_zero, List.set_cons_succ]
  refine wpAnyH_take (i := 1) (v := ?v1) rfl (by kernel_rfl) (by kernel_rfl) (by kernel_rfl) (fun _ _ _ h => h) (Or.inl ⟨by rfl, ?hy1⟩) (by assumption) ?rest1
  case hy1 => (intro W hSW; go_simp; first | done | with_reducible rfl)
  try simp only [Act.put, List.getElem_toArray, List.getElem_cons_succ, List.getElem_cons_zero, List.setIfInBounds_toArray, List.set_cons_zero, List.set_cons_succ]
  refine wpAnyH_take (i := 2) (v := ?v2) rfl (by kernel_rfl) (by kernel_rfl) (by kernel_rfl) (fun _ _ _ h => h) (Or.inl ⟨by rfl, ?hy2⟩) (by assumption) ?rest2
  case hy2 => (intro W hSW; go_simp; first | done | with_reducible rfl)
  try simp only [Act.put, List.getElem_toArray, List.getElem_cons_succ, List.getElem_cons_zero, List.setIfInBounds_toArray, List.set_cons_zero, List.set_cons_succ]
  have hB : RefAt (w4.drew.setRow (w.heap.size + 1) (refC s.next)) (w.heap.size + 1) s.next := setRow_heap _ _ _ _ _ _ hoth
  have hA : RefAt (w4.drew.setRow (w.heap.size + 1) (refC s.next)) w.heap.size s.next := (setRow_other _ _ _ _ (by omega)).trans hset'
  have hBel : Below w.heap.size w (w4.drew.setRow (w.heap.size + 1) (refC s.next)) := hb3.trans ⟨rfl, rfl, rfl, by simp, fun k hk => setRow_other _ _ _ _ (by omega)⟩
  have hoth' : BlkAt w4.drew (w.heap.size + 1) 32 (refC WS.zero) := hoth
  refine wpAnyH_store (i := 3) (b := w.heap.size + 1) (cs := refC s.next) (by kernel_rfl) rfl (by rfl) (.tmp 4) (.tmp 16) rfl rfl rfl hoth' (Tryd.refI _) (by rw [refC_size, refC_size]) (refC_one _) hA ?_
  generalize w4.drew.setRow (w.heap.size + 1) (refC s.next) = w5 at *
  try simp only [Act.put, List.getElem_toArray, List.getElem_cons_succ, List.getElem_cons_zero, List.setIfInBounds_toArray, List.set_cons_zero, List.set_cons_succ]
  refine wpAnyH_take (i := 4) (v := ?v4) rfl (by kernel_rfl) (by kernel_rfl) (by kernel_rfl) (fun _ _ _ h => h) (Or.inl ⟨by rfl, ?hy4⟩) (by assumption) ?rest4
  case hy4 => (intro W hSW; go_simp; first | done | with_reducible rfl)
  try simp only [Act.put, List.getElem_toArray, List.getElem_cons_succ, List.getElem_cons_zero, List.setIfInBounds_toArray, List.set_cons_zero, List.set_cons_succ]
  refine wpAnyH_take (i := 5) (v := ?v5) rfl (by kernel_rfl) (by kernel_rfl) (by kernel_rfl) (fun _ _ _ h => h) (Or.inl ⟨by rfl, ?hy5⟩) (by assumption) ?rest5
  case hy5 => (intro W hSW; go_simp; first | done | with_reducible rfl)
  try simp only [Act.put, List.getElem_toArray, List.getElem_cons_succ, List.getElem_cons_zero, List.setIfInBounds_toArray, List.set_cons_zero, List.set_cons_succ]
  refine wpAnyH_done (by kernel_rfl) ?_ _
  refine NoPanic.normal ?_
  go_wp2
  refine bodyPost_ret (results_row2 rfl _ _ (w.heap.size + 1) 32 _ (0, 0) _ rfl hB Tryd.underlying32 rfl (Tryd.refI _)) rfl ⟨rfl, ?_⟩
  exact hBel
theorem rnext_any (s : WS) (hs : s.Ok) (r : Int) (w : World) (hr1 : -9223372036854775808 ≤ r) (hr2 : r ≤ 9223372036854775807) :
    Calls Tryd.prog 13 #[.agg (refC s), .int .i64 r] w fun e w' => e = .returned (s.nextR r) ∧ Below w.heap.size w w' := by
  cases hm : s.room r with
  | false =>
    rw [WS.nextR, if_neg (by rw [hm]; decide)]
    exact rnext_no s hs r w hr1 hr2 hm
  | true =>
    rw [WS.nextR, if_pos hm]
    exact rnext_yes s hs r w hr1 hr2 hm
end Go.Proofs.YthjlilgnnmnaeaaDoor
