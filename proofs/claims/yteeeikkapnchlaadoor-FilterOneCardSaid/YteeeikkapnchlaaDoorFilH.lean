/- filter: the statements' of -/
import Derived.Test.YteeeikkapnchlaaDoorFilG
namespace Go.Proofs.YteeeikkapnchlaaDoor
set_option linter.unusedSimpArgs false
set_option linter.unusedVariables false
open Go.RowKit Go.Sort
theorem ow_range {w : World} {b off n c : Nat} {os : List Ow} (h : Rd w 29 (some ⟨b, off, none⟩) n c (os.flatMap owC)) (k : Nat) (hk : k < os.length) : w.rangeAt b (off + k * 29) (owC os[k]) := by
  intro j v hj
  have hlt : j < 29 := (List.getElem?_eq_some_iff.1 hj).1
  rw [Nat.add_assoc]
  refine Rd.at h ((flatMap_get owC_len os k j hlt).trans ?_)
  rw [List.getElem?_eq_getElem hk]
  exact hj
theorem range_sub {w : World} {b off : Nat} {cs : List Value} (h : w.rangeAt b off cs) (p : Nat) {ds : List Value} (hd : ∀ j v, ds[j]? = some v → cs[p + j]? = some v) : w.rangeAt b (off + p) ds := fun j v hj => by
  rw [Nat.add_assoc]; exact h (p + j) v (hd j v hj)
theorem owC_it (o : Ow) : ∀ j v, (iwC o.it)[j]? = some v → (owC o)[1 + j]? = some v := by
  intro j v h
  have hlt : j < 18 := (List.getElem?_eq_some_iff.1 h).1
  rw [owC, Nat.add_comm, List.getElem?_cons_succ, List.getElem?_append_left hlt]
  exact h
theorem owC_tail (o : Ow) (p : Nat) (hp : 19 ≤ p) (ds : List Value) (hd : ∀ j v, ds[j]? = some v → ([.int .u64 o.rc.last.num, .int .u64 o.rc.last.ce, .int .i64 o.rc.last.cr, .int .u64 o.rc.last.mem, .slice o.ra o.rn o.rk, .int .u64 o.view.num, .int .u64 o.view.ce, .int .i64 o.view.cr, .int .u64 o.view.mem, .slice o.ca o.cn o.ck] : List Value)[p - 19 + j]? = some v) : ∀ j v, ds[j]? = some v → (owC o)[p + j]? = some v := by
  intro j v h
  rw [owC, show p + j = (p - 19 + j + 18) + 1 from by omega, List.getElem?_cons_succ, List.getElem?_append_right (by rw [iwC_len]; omega), iwC_len, Nat.add_sub_cancel]
  exact hd j v h
theorem get4L {x0 x1 x2 x3 : Value} {old : List Value} {p : Nat} (h0 : old[p]? = some x0) (h1 : old[p + 1]? = some x1) (h2 : old[p + 2]? = some x2) (h3 : old[p + 3]? = some x3) : ∀ j v, ([x0, x1, x2, x3] : List Value)[j]? = some v → old[p + j]? = some v := by
  intro j v h
  rcases j with _ | _ | _ | _ | j
  · exact h0.trans h
  · exact h1.trans h
  · exact h2.trans h
  · exact h3.trans h
  · cases h
theorem Tryd.riE : Elt Tryd.prog 86 85 (.agg (iwA .zero)) 18 160 := ⟨by kernel_rfl, by kernel_rfl, rfl, by decide⟩
theorem Tryd.roE : Elt Tryd.prog 51 88 (.agg (owA .zero)) 29 280 := ⟨by kernel_rfl, by kernel_rfl, rfl, by decide⟩
theorem Tryd.roZ : (Tryd.prog.info? 88).map (·.zero) = some (some (.agg (owA .zero))) := by kernel_rfl
theorem Tryd.roI (o : Ow) : (Tryd.prog.info? 88).map (·.size) = some (owA o).size := by show _ = some 29; kernel_rfl
theorem Tryd.roB (k : Int) (x : Iw) (u : Vw) (a : Option Addr) (n c : Nat) (v : Vw) : Tryd.prog.built 88 [(0, .int .i64 k), (1, .agg (iwA x)), (2, .agg #[.int .u64 u.num, .int .u64 u.ce, .int .i64 u.cr, .int .u64 u.mem, .slice a n c]), (3, .agg #[.int .u64 v.num, .int .u64 v.ce, .int .i64 v.cr, .int .u64 v.mem])] = some (owA ⟨k, x, ⟨u, []⟩, a, n, c, v, none, 0, 0, []⟩) := by kernel_rfl
/-- An out with the claims so far. -/
def Ow.cls (o : Ow) (a : Option Addr) (n c : Nat) : Ow := ⟨o.kind, o.it, o.rc, o.ra, o.rn, o.rk, o.view, a, n, c, o.cl.take n⟩
/-- A row of outs of one's own. -/
structure OwRow (F : Nat → Prop) (e : TypeId) (B : Nat) (w : World) (v : Value) (n : Nat) (os : List Ow) : Prop where
  own : w.ownsRow B e 29 v n (os.flatMap owC)
  inn : ∀ o ∈ os, OwF (fun g => F g ∨ v.ownBlock = some g) w o
section
variable {F : Nat → Prop} {e : TypeId} {B : Nat} {w w' : World} {v v' : Value} {n : Nat} {os : List Ow} {o : Ow}
theorem OwRow.below (h : OwRow F e B w v n os) (hb : Below w.heap.size w w') : OwRow F e B w' v n os := ⟨own_belowB h.own hb, fun x hx => (h.inn x hx).below hb⟩
theorem OwRow.nil : OwRow F e B w (.slice none 0 0) 0 [] := ⟨World.ownsRow_nil _ _ _ _, fun x hx => by cases hx⟩
theorem OwRow.push {m : Nat} {ps : List Ow} (h : OwRow F e B w v n os) (hx : ∀ p ∈ ps, OwF (fun g => F g ∨ v.ownBlock = some g) w p) (ho : w'.ownsRow B e 29 v' (n + m) (os.flatMap owC ++ ps.flatMap owC)) (hg : w.grownBy w' v.ownBlock) (hv : v'.ownBlock = v.ownBlock ∨ ∀ k, v'.ownBlock = some k → w.heap.size ≤ k) : OwRow F e B w' v' (n + m) (os ++ ps) := by
  refine ⟨by rw [List.flatMap_append]; exact ho, fun y hy => ?_⟩
  have hy' : OwF (fun g => F g ∨ v.ownBlock = some g) w y := by
    rcases List.mem_append.1 hy with hy | hy
    · exact h.inn y hy
    · exact hx y hy
  have h1 := hy'.more (F' := fun g => (F g ∨ v.ownBlock = some g) ∨ v'.ownBlock = some g) (fun g hf => hf.elim .inl (fun e => by
    rcases hv with hv | hv
    · exact .inl (.inr (hv ▸ e))
    · exact .inr (hv g e)))
  have h2 := h1.kpO (KpO.ofGrown (O := fun g => v.ownBlock = some g) hg (fun k e => e)) (fun g e => .inl (.inr e))
  exact h2.less (fun g hf => hf.elim (fun hf => .inl (.inl hf)) .inr)
theorem OwRow.rdO {a : Option Addr} {c : Nat} (h : OwRow F e B w (.slice a n c) n os) (hF : ∀ g, F g → g < B) : RdO F w a n c os := by
  obtain ⟨_, _, e, hrd⟩ := Rd.own h.own
  injection e with e1 _ e3
  subst e1 e3
  exact ⟨⟨hrd, Off.fresh (own_fresh h.own) hF⟩, fun o ho => (h.inn o ho).less (fun g hg => .inl hg)⟩
end
set_option maxHeartbeats 6400000 in
set_option maxRecDepth 100000 in
theorem of_any {F : Nat → Prop} (a : Option Addr) (n c : Nat) (os : List Ow) (hn : n ≤ 1000000) (w : World) (hF : ∀ g, F g → g < w.heap.size) (h : RdO F w a n c os) :
    Calls Tryd.prog 15 #[.slice a n c] w fun e w' => ∃ (a' : Option Addr) (c' : Nat) (os' : List Ow), e = .returned (.slice a' n c') ∧ RdO F w' a' n c' os' ∧ os'.map (·.v) = os.map (·.v) ∧ Below w.heap.size w w' := by
  have hlen := Lib.hid h.len
  have hmx := Rd.le_max h.1.1
  unfold maxLen at hmx
  have h0 := Lib.hid h
  have hF0 := Lib.hid hF
  clear h hF
  go_enter Tryd.func15, Tryd.ntmps15
  go_wp2
  go_loopw [3, 4, 5, 6] (fun ov iv _ _ wr => ∃ (i : Nat) (ra : Option Addr) (rc : Nat) (ps : List Ow), i ≤ n ∧ iv = .int .i64 i ∧ ov = .slice ra i rc ∧ Hid (OwRow F 88 w.heap.size wr (.slice ra i rc) i ps) ∧ Hid (ps.map (·.v) = (os.take i).map (·.v)) ∧ Hid (Below w.heap.size w wr)) (fun _ iv _ _ _ => n - (RowKit.intOf iv).toNat)
  case atStart => exact ⟨0, none, 0, [], Nat.zero_le _, rfl, rfl, Lib.hid OwRow.nil, Lib.hid rfl, Lib.hid (Below.refl _ _)⟩
  case round =>
    obtain ⟨i, ra, rc, ps, hi, rfl, rfl, hR, hV, hbr⟩ := hrel
    obtain ⟨wi, rfl⟩ : ∃ z, z = wr := ⟨_, rfl⟩
    by_cases hin : i < n
    · have hiI : (i : Int) < n := by omega
      have hil : i < os.length := by rw [hlen.out]; exact hin
      obtain ⟨gl, ol, rfl, hgl⟩ := Rd.addr h0.out.1.1 (by omega)
      have hrg := Lib.hid (fun W (hb : Below w.heap.size w W) => ow_range (Rd.below h0.out.1.1 hb (Nat.le_refl _)) i hil)
      have hst := Lib.hid (show (os.take (i + 1)).map (·.v) = (os.take i).map (·.v) ++ [os[i].v] from by rw [List.take_succ_eq_append_getElem hil, List.map_append]; rfl)
      rw [← hV.out] at hst
      have hoF := Lib.hid (h0.out.2 _ (List.getElem_mem hil))
      generalize os[i] = o at *
      have hbs := hbr.out.size
      have hS5 : Hid (∀ W, Below wi.heap.size wi W → W.rangeAt gl (ol + i * 29 + 1) (iwC o.it) ∧ W.rangeAt gl (ol + i * 29 + 19) [.int .u64 o.rc.last.num, .int .u64 o.rc.last.ce, .int .i64 o.rc.last.cr, .int .u64 o.rc.last.mem] ∧ W.rangeAt gl (ol + i * 29 + 24) [.int .u64 o.view.num, .int .u64 o.view.ce, .int .i64 o.view.cr, .int .u64 o.view.mem] ∧ W.cell? ⟨gl, ol + i * 29, none⟩ = some (.int .i64 o.kind) ∧ W.cell? ⟨gl, ol + i * 29 + 23, none⟩ = some (.slice o.ra o.rn o.rk)) := Lib.hid (fun W hb => by
        have hr := hrg.out W (hbr.out.trans (hb.mono hbs))
        exact ⟨range_sub hr 1 (owC_it o), range_sub hr 19 (owC_tail o 19 (by decide) _ (get4L rfl rfl rfl rfl)), range_sub hr 24 (owC_tail o 24 (by decide) _ (get4L rfl rfl rfl rfl)), hr 0 _ rfl, by have := hr 23 (.slice o.ra o.rn o.rk) rfl; exact this⟩)
      have hb0 : Below wi.heap.size wi wi.drew := (Below.refl wi.heap.size wi).drew
      have hiL := Tryd.iwL o.it
      have hvL1 : (Tryd.prog.info? 35).map (·.size) = some ([.int .u64 o.rc.last.num, .int .u64 o.rc.last.ce, .int .i64 o.rc.last.cr, .int .u64 o.rc.last.mem] : List Value).length := by show _ = some 4; kernel_rfl
      have hvL2 : (Tryd.prog.info? 35).map (·.size) = some ([.int .u64 o.view.num, .int .u64 o.view.ce, .int .i64 o.view.cr, .int .u64 o.view.mem] : List Value).length := by show _ = some 4; kernel_rfl
      go_upto_region 5 with (fail)
      go_cut [5] from 13 to 42 (fun p wx => ∃ xb, p = .pointer (some ⟨xb, 0, none⟩) ∧ wi.heap.size ≤ xb ∧ BlkAt wx xb 88 (owA (o.cls none 0 0)) ∧ Below wi.heap.size wi wx)
      case first => as_aux_lemma =>
        refine wp_region_held_drew (S := fun W => W.rangeAt gl (ol + i * 29 + 1) (iwC o.it) ∧ W.rangeAt gl (ol + i * 29 + 19) [.int .u64 o.rc.last.num, .int .u64 o.rc.last.ce, .int .i64 o.rc.last.cr, .int .u64 o.rc.last.mem] ∧ W.rangeAt gl (ol + i * 29 + 24) [.int .u64 o.view.num, .int .u64 o.view.ce, .int .i64 o.view.cr, .int .u64 o.view.mem] ∧ W.cell? ⟨gl, ol + i * 29, none⟩ = some (.int .i64 o.kind) ∧ W.cell? ⟨gl, ol + i * 29 + 23, none⟩ = some (.slice o.ra o.rn o.rk)) (by kernel_rfl) (hS5.out _ hb0) ?_
        intro hHeld
        (refine wpAnyH_take (i := 0) (v := ?_) rfl (by kernel_rfl) (by kernel_rfl) (by kernel_rfl) (fun _ _ _ h => h) (Or.inl ⟨by rfl, ?_⟩) (by assumption) ?_; rotate_left; (focus (intro w hSw; clear hSw; go_simp; (try with_reducible rfl))); (try simp only [Act.put, List.getElem_toArray, List.getElem_cons_zero, List.getElem_cons_succ, List.setIfInBounds_toArray, List.set_cons_zero, List.set_cons_succ]))
        (refine wpAnyH_take (i := 1) (v := ?_) rfl (by kernel_rfl) (by kernel_rfl) (by kernel_rfl) (fun _ _ _ h => h) (Or.inl ⟨by rfl, ?_⟩) (by assumption) ?_; rotate_left; (focus (intro w hSw; clear hSw; go_simp; (try with_reducible rfl))); (try simp only [Act.put, List.getElem_toArray, List.getElem_cons_zero, List.getElem_cons_succ, List.setIfInBounds_toArray, List.set_cons_zero, List.set_cons_succ]))
        (refine wpAnyH_take (i := 2) (v := ?_) rfl (by kernel_rfl) (by kernel_rfl) (by kernel_rfl) (fun _ _ _ h => h) (Or.inl ⟨by rfl, ?_⟩) (by assumption) ?_; rotate_left; (focus (intro w hSw; clear hSw; go_simp; (try with_reducible rfl))); (try simp only [Act.put, List.getElem_toArray, List.getElem_cons_zero, List.getElem_cons_succ, List.setIfInBounds_toArray, List.set_cons_zero, List.set_cons_succ]))
        (refine wpAnyH_take (i := 3) (v := ?_) rfl (by kernel_rfl) (by kernel_rfl) (by kernel_rfl) (fun _ _ _ h => h) (Or.inl ⟨by rfl, ?_⟩) (by assumption) ?_; rotate_left; (focus (intro w hSw; clear hSw; go_simp; (try with_reducible rfl))); (try simp only [Act.put, List.getElem_toArray, List.getElem_cons_zero, List.getElem_cons_succ, List.setIfInBounds_toArray, List.set_cons_zero, List.set_cons_succ]))
        (refine wpAnyH_take (i := 4) (v := ?_) rfl (by kernel_rfl) (by kernel_rfl) (by kernel_rfl) (fun _ _ _ h => h) (Or.inl ⟨by rfl, ?_⟩) (by assumption) ?_; rotate_left; (focus (intro w hSw; have hc := hSw.2.2.2.1; clear hSw; go_simp; (try with_reducible rfl))); (try simp only [Act.put, List.getElem_toArray, List.getElem_cons_zero, List.getElem_cons_succ, List.setIfInBounds_toArray, List.set_cons_zero, List.set_cons_succ]))
        (refine wpAnyH_take (i := 5) (v := ?_) rfl (by kernel_rfl) (by kernel_rfl) (by kernel_rfl) (fun _ _ _ h => h) (Or.inl ⟨by rfl, ?_⟩) (by assumption) ?_; rotate_left; (focus (intro w hSw; clear hSw; go_simp; (try with_reducible rfl))); (try simp only [Act.put, List.getElem_toArray, List.getElem_cons_zero, List.getElem_cons_succ, List.setIfInBounds_toArray, List.set_cons_zero, List.set_cons_succ]))
        (refine wpAnyH_take (i := 6) (v := ?_) rfl (by kernel_rfl) (by kernel_rfl) (by kernel_rfl) (fun _ _ _ h => h) (Or.inl ⟨by rfl, ?_⟩) (by assumption) ?_; rotate_left; (focus (intro w hSw; clear hSw; go_simp; (try with_reducible rfl))); (try simp only [Act.put, List.getElem_toArray, List.getElem_cons_zero, List.getElem_cons_succ, List.setIfInBounds_toArray, List.set_cons_zero, List.set_cons_succ]))
        (refine wpAnyH_take (i := 7) (v := ?_) rfl (by kernel_rfl) (by kernel_rfl) (by kernel_rfl) (fun _ _ _ h => h) (Or.inl ⟨by rfl, ?_⟩) (by assumption) ?_; rotate_left; (focus (intro w hSw; clear hSw; go_simp; (try with_reducible rfl))); (try simp only [Act.put, List.getElem_toArray, List.getElem_cons_zero, List.getElem_cons_succ, List.setIfInBounds_toArray, List.set_cons_zero, List.set_cons_succ]))
        (refine wpAnyH_take (i := 8) (v := ?_) rfl (by kernel_rfl) (by kernel_rfl) (by kernel_rfl) (fun _ _ _ h => h) (Or.inl ⟨by rfl, ?_⟩) (by assumption) ?_; rotate_left; (focus (intro w hSw; clear hSw; go_simp; (try with_reducible rfl))); (try simp only [Act.put, List.getElem_toArray, List.getElem_cons_zero, List.getElem_cons_succ, List.setIfInBounds_toArray, List.set_cons_zero, List.set_cons_succ]))
        (refine wpAnyH_take (i := 9) (v := .agg (iwC o.it).toArray) rfl (by kernel_rfl) (by kernel_rfl) (by kernel_rfl) (fun _ _ _ h => h) (yieldsIf_load_mid (by rfl) 45 (.tmp 21) rfl gl (ol + i * 29 + 1) rfl (iwC o.it) _ (fun W hW => hW.1) Tryd.underlying45 rfl hiL) (by assumption) ?_; (try simp only [Act.put, List.getElem_toArray, List.getElem_cons_zero, List.getElem_cons_succ, List.setIfInBounds_toArray, List.set_cons_zero, List.set_cons_succ]))
        (refine wpAnyH_take (i := 11) (v := ?_) rfl (by kernel_rfl) (by kernel_rfl) (by kernel_rfl) (fun _ _ _ h => h) (Or.inl ⟨by rfl, ?_⟩) (by assumption) ?_; rotate_left; (focus (intro w hSw; clear hSw; go_simp; (try with_reducible rfl))); (try simp only [Act.put, List.getElem_toArray, List.getElem_cons_zero, List.getElem_cons_succ, List.setIfInBounds_toArray, List.set_cons_zero, List.set_cons_succ]))
        (refine wpAnyH_take (i := 12) (v := ?_) rfl (by kernel_rfl) (by kernel_rfl) (by kernel_rfl) (fun _ _ _ h => h) (Or.inl ⟨by rfl, ?_⟩) (by assumption) ?_; rotate_left; (focus (intro w hSw; clear hSw; go_simp; (try with_reducible rfl))); (try simp only [Act.put, List.getElem_toArray, List.getElem_cons_zero, List.getElem_cons_succ, List.setIfInBounds_toArray, List.set_cons_zero, List.set_cons_succ]))
        (refine wpAnyH_take (i := 13) (v := ?_) rfl (by kernel_rfl) (by kernel_rfl) (by kernel_rfl) (fun _ _ _ h => h) (Or.inl ⟨by rfl, ?_⟩) (by assumption) ?_; rotate_left; (focus (intro w hSw; clear hSw; go_simp; (try with_reducible rfl))); (try simp only [Act.put, List.getElem_toArray, List.getElem_cons_zero, List.getElem_cons_succ, List.setIfInBounds_toArray, List.set_cons_zero, List.set_cons_succ]))
        (refine wpAnyH_take (i := 14) (v := ?_) rfl (by kernel_rfl) (by kernel_rfl) (by kernel_rfl) (fun _ _ _ h => h) (Or.inl ⟨by rfl, ?_⟩) (by assumption) ?_; rotate_left; (focus (intro w hSw; clear hSw; go_simp; (try with_reducible rfl))); (try simp only [Act.put, List.getElem_toArray, List.getElem_cons_zero, List.getElem_cons_succ, List.setIfInBounds_toArray, List.set_cons_zero, List.set_cons_succ]))
        (refine wpAnyH_take (i := 15) (v := ?_) rfl (by kernel_rfl) (by kernel_rfl) (by kernel_rfl) (fun _ _ _ h => h) (Or.inl ⟨by rfl, ?_⟩) (by assumption) ?_; rotate_left; (focus (intro w hSw; clear hSw; go_simp; (try with_reducible rfl))); (try simp only [Act.put, List.getElem_toArray, List.getElem_cons_zero, List.getElem_cons_succ, List.setIfInBounds_toArray, List.set_cons_zero, List.set_cons_succ]))
        (refine wpAnyH_take (i := 16) (v := .agg #[.int .u64 o.rc.last.num, .int .u64 o.rc.last.ce, .int .i64 o.rc.last.cr, .int .u64 o.rc.last.mem]) rfl (by kernel_rfl) (by kernel_rfl) (by kernel_rfl) (fun _ _ _ h => h) (yieldsIf_load_mid (by rfl) 35 (.tmp 28) rfl gl (ol + i * 29 + 19) rfl [.int .u64 o.rc.last.num, .int .u64 o.rc.last.ce, .int .i64 o.rc.last.cr, .int .u64 o.rc.last.mem] _ (fun W hW => hW.2.1) Tryd.underlying35 rfl hvL1) (by assumption) ?_; (try simp only [Act.put, List.getElem_toArray, List.getElem_cons_zero, List.getElem_cons_succ, List.setIfInBounds_toArray, List.set_cons_zero, List.set_cons_succ]))
        (refine wpAnyH_take (i := 17) (v := ?_) rfl (by kernel_rfl) (by kernel_rfl) (by kernel_rfl) (fun _ _ _ h => h) (Or.inl ⟨by rfl, ?_⟩) (by assumption) ?_; rotate_left; (focus (intro w hSw; clear hSw; go_simp; (try with_reducible rfl))); (try simp only [Act.put, List.getElem_toArray, List.getElem_cons_zero, List.getElem_cons_succ, List.setIfInBounds_toArray, List.set_cons_zero, List.set_cons_succ]))
        (refine wpAnyH_take (i := 18) (v := ?_) rfl (by kernel_rfl) (by kernel_rfl) (by kernel_rfl) (fun _ _ _ h => h) (Or.inl ⟨by rfl, ?_⟩) (by assumption) ?_; rotate_left; (focus (intro w hSw; clear hSw; go_simp; (try with_reducible rfl))); (try simp only [Act.put, List.getElem_toArray, List.getElem_cons_zero, List.getElem_cons_succ, List.setIfInBounds_toArray, List.set_cons_zero, List.set_cons_succ]))
        (refine wpAnyH_take (i := 19) (v := ?_) rfl (by kernel_rfl) (by kernel_rfl) (by kernel_rfl) (fun _ _ _ h => h) (Or.inl ⟨by rfl, ?_⟩) (by assumption) ?_; rotate_left; (focus (intro w hSw; clear hSw; go_simp; (try with_reducible rfl))); (try simp only [Act.put, List.getElem_toArray, List.getElem_cons_zero, List.getElem_cons_succ, List.setIfInBounds_toArray, List.set_cons_zero, List.set_cons_succ]))
        (refine wpAnyH_take (i := 20) (v := ?_) rfl (by kernel_rfl) (by kernel_rfl) (by kernel_rfl) (fun _ _ _ h => h) (Or.inl ⟨by rfl, ?_⟩) (by assumption) ?_; rotate_left; (focus (intro w hSw; clear hSw; go_simp; (try with_reducible rfl))); (try simp only [Act.put, List.getElem_toArray, List.getElem_cons_zero, List.getElem_cons_succ, List.setIfInBounds_toArray, List.set_cons_zero, List.set_cons_succ]))
        (refine wpAnyH_take (i := 21) (v := ?_) rfl (by kernel_rfl) (by kernel_rfl) (by kernel_rfl) (fun _ _ _ h => h) (Or.inl ⟨by rfl, ?_⟩) (by assumption) ?_; rotate_left; (focus (intro w hSw; clear hSw; go_simp; (try with_reducible rfl))); (try simp only [Act.put, List.getElem_toArray, List.getElem_cons_zero, List.getElem_cons_succ, List.setIfInBounds_toArray, List.set_cons_zero, List.set_cons_succ]))
        (refine wpAnyH_take (i := 22) (v := ?_) rfl (by kernel_rfl) (by kernel_rfl) (by kernel_rfl) (fun _ _ _ h => h) (Or.inl ⟨by rfl, ?_⟩) (by assumption) ?_; rotate_left; (focus (intro w hSw; have hc := hSw.2.2.2.2; clear hSw; go_simp; (try with_reducible rfl))); (try simp only [Act.put, List.getElem_toArray, List.getElem_cons_zero, List.getElem_cons_succ, List.setIfInBounds_toArray, List.set_cons_zero, List.set_cons_succ]))
        (refine wpAnyH_take (i := 23) (v := .agg (#[.int .u64 o.rc.last.num, .int .u64 o.rc.last.ce, .int .i64 o.rc.last.cr, .int .u64 o.rc.last.mem, .slice o.ra o.rn o.rk])) rfl (by kernel_rfl) (by kernel_rfl) (by kernel_rfl) (fun _ _ _ h => h) (yieldsIf_build (by rfl) 60 #[(0, .tmp 29), (1, .tmp 35)] rfl (by rw [List.map_toArray]; exact Tryd.rrB o.rc.last o.ra o.rn o.rk)) (by assumption) ?_; (try simp only [Act.put, List.getElem_toArray, List.getElem_cons_zero, List.getElem_cons_succ, List.setIfInBounds_toArray, List.set_cons_zero, List.set_cons_succ]))
        (refine wpAnyH_take (i := 24) (v := ?_) rfl (by kernel_rfl) (by kernel_rfl) (by kernel_rfl) (fun _ _ _ h => h) (Or.inl ⟨by rfl, ?_⟩) (by assumption) ?_; rotate_left; (focus (intro w hSw; clear hSw; go_simp; (try with_reducible rfl))); (try simp only [Act.put, List.getElem_toArray, List.getElem_cons_zero, List.getElem_cons_succ, List.setIfInBounds_toArray, List.set_cons_zero, List.set_cons_succ]))
        (refine wpAnyH_take (i := 25) (v := ?_) rfl (by kernel_rfl) (by kernel_rfl) (by kernel_rfl) (fun _ _ _ h => h) (Or.inl ⟨by rfl, ?_⟩) (by assumption) ?_; rotate_left; (focus (intro w hSw; clear hSw; go_simp; (try with_reducible rfl))); (try simp only [Act.put, List.getElem_toArray, List.getElem_cons_zero, List.getElem_cons_succ, List.setIfInBounds_toArray, List.set_cons_zero, List.set_cons_succ]))
        (refine wpAnyH_take (i := 26) (v := ?_) rfl (by kernel_rfl) (by kernel_rfl) (by kernel_rfl) (fun _ _ _ h => h) (Or.inl ⟨by rfl, ?_⟩) (by assumption) ?_; rotate_left; (focus (intro w hSw; clear hSw; go_simp; (try with_reducible rfl))); (try simp only [Act.put, List.getElem_toArray, List.getElem_cons_zero, List.getElem_cons_succ, List.setIfInBounds_toArray, List.set_cons_zero, List.set_cons_succ]))
        (refine wpAnyH_take (i := 27) (v := ?_) rfl (by kernel_rfl) (by kernel_rfl) (by kernel_rfl) (fun _ _ _ h => h) (Or.inl ⟨by rfl, ?_⟩) (by assumption) ?_; rotate_left; (focus (intro w hSw; clear hSw; go_simp; (try with_reducible rfl))); (try simp only [Act.put, List.getElem_toArray, List.getElem_cons_zero, List.getElem_cons_succ, List.setIfInBounds_toArray, List.set_cons_zero, List.set_cons_succ]))
        (refine wpAnyH_take (i := 28) (v := .agg #[.int .u64 o.view.num, .int .u64 o.view.ce, .int .i64 o.view.cr, .int .u64 o.view.mem]) rfl (by kernel_rfl) (by kernel_rfl) (by kernel_rfl) (fun _ _ _ h => h) (yieldsIf_load_mid (by rfl) 35 (.tmp 40) rfl gl (ol + i * 29 + 24) rfl [.int .u64 o.view.num, .int .u64 o.view.ce, .int .i64 o.view.cr, .int .u64 o.view.mem] _ (fun W hW => hW.2.2.1) Tryd.underlying35 rfl hvL2) (by assumption) ?_; (try simp only [Act.put, List.getElem_toArray, List.getElem_cons_zero, List.getElem_cons_succ, List.setIfInBounds_toArray, List.set_cons_zero, List.set_cons_succ]))
        (refine wpAnyH_ready (rs := [10, 30]) (by kernel_rfl) (by simp) ?_; refine AllReadyH.cons rfl (fun K hK => ?_) (AllReadyH.cons rfl (fun K hK => ?_) AllReadyH.nil))
        · go_simp
          refine (itm_eq o.it _).mono ?_
          rintro e wA ⟨rfl, hbA⟩
          have bA := belS hb0 hbA
          refine hK.out _ _ (hS5.out _ bA) (fun hHeld => ?_)
          clear hK K
          (refine wpAnyH_take (i := 29) (v := .agg (owA (o.cls none 0 0))) rfl (by kernel_rfl) (by kernel_rfl) (by kernel_rfl) (fun _ _ _ h => h) (yieldsIf_build (by rfl) 88 #[(0, .tmp 17), (1, .tmp 23), (2, .tmp 36), (3, .tmp 41)] rfl (by rw [List.map_toArray]; exact Tryd.roB o.kind o.it o.rc.last o.ra o.rn o.rk o.view)) (by assumption) ?_; (try simp only [Act.put, List.getElem_toArray, List.getElem_cons_zero, List.getElem_cons_succ, List.setIfInBounds_toArray, List.set_cons_zero, List.set_cons_succ]))
          (refine wpAnyH_ready (rs := [30]) (by kernel_rfl) (by simp) ?_; refine AllReadyH.cons rfl (fun K hK => ?_) AllReadyH.nil)
          refine step_blk_alloc rfl rfl Tryd.roZ wA.heap.size rfl ?_
          (try simp only [Act.put, List.getElem_toArray, List.getElem_cons_zero, List.getElem_cons_succ, List.setIfInBounds_toArray, List.set_cons_zero, List.set_cons_succ])
          have bB := bA.alloc bA.size (.cells (owA .zero) 88)
          refine hK.out _ _ (hS5.out _ bB) (fun hHeld => ?_)
          clear hK K
          (refine wpAnyH_ready (rs := [31]) (by kernel_rfl) (by simp) ?_; refine AllReadyH.cons rfl (fun K hK => ?_) AllReadyH.nil)
          refine step_blk_store (cs := owA (o.cls none 0 0)) rfl (.tmp 5) (.tmp 42) rfl rfl rfl (BlkAt.new wA 88 (owA .zero)) (Tryd.roI _) rfl (owA_one _) (fun wD hD hKD hsD => ?_)
          (try simp only [Act.put, List.getElem_toArray, List.getElem_cons_zero, List.getElem_cons_succ, List.setIfInBounds_toArray, List.set_cons_zero, List.set_cons_succ])
          have bD := Kp.below bB hKD bA.size bB.size
          refine hK.out _ _ (hS5.out _ bD) (fun hHeld => ?_)
          clear hK K
          refine wpAnyH_done (by kernel_rfl) ?_ _
          go_wp2_with fail
          go_meet
          exact ⟨_, rfl, bA.size, hD, bD⟩
        · refine step_blk_alloc rfl rfl Tryd.roZ wi.heap.size rfl ?_
          (try simp only [Act.put, List.getElem_toArray, List.getElem_cons_zero, List.getElem_cons_succ, List.setIfInBounds_toArray, List.set_cons_zero, List.set_cons_succ])
          have hZ := BlkAt.new wi.drew 88 (owA .zero)
          have bB := hb0.alloc hb0.size (.cells (owA .zero) 88)
          have hlz := hZ.lt
          generalize wi.drew.alloc (.cells (owA .zero) 88) = wB at *
          refine hK.out _ _ (hS5.out _ bB) (fun hHeld => ?_)
          clear hK K
          (refine wpAnyH_ready (rs := [10]) (by kernel_rfl) (by simp) ?_; refine AllReadyH.cons rfl (fun K hK => ?_) AllReadyH.nil)
          go_simp
          refine (itm_eq o.it _).mono ?_
          rintro e wA ⟨rfl, hbA⟩
          have bA := belS bB hbA
          have hZA := hZ.below hbA hlz
          refine hK.out _ _ (hS5.out _ bA) (fun hHeld => ?_)
          clear hK K
          (refine wpAnyH_take (i := 29) (v := .agg (owA (o.cls none 0 0))) rfl (by kernel_rfl) (by kernel_rfl) (by kernel_rfl) (fun _ _ _ h => h) (yieldsIf_build (by rfl) 88 #[(0, .tmp 17), (1, .tmp 23), (2, .tmp 36), (3, .tmp 41)] rfl (by rw [List.map_toArray]; exact Tryd.roB o.kind o.it o.rc.last o.ra o.rn o.rk o.view)) (by assumption) ?_; (try simp only [Act.put, List.getElem_toArray, List.getElem_cons_zero, List.getElem_cons_succ, List.setIfInBounds_toArray, List.set_cons_zero, List.set_cons_succ]))
          (refine wpAnyH_ready (rs := [31]) (by kernel_rfl) (by simp) ?_; refine AllReadyH.cons rfl (fun K hK => ?_) AllReadyH.nil)
          refine step_blk_store (cs := owA (o.cls none 0 0)) rfl (.tmp 5) (.tmp 42) rfl rfl rfl hZA (Tryd.roI _) rfl (owA_one _) (fun wD hD hKD hsD => ?_)
          (try simp only [Act.put, List.getElem_toArray, List.getElem_cons_zero, List.getElem_cons_succ, List.setIfInBounds_toArray, List.set_cons_zero, List.set_cons_succ])
          have bD := Kp.below bA hKD (Nat.le_refl _) bA.size
          refine hK.out _ _ (hS5.out _ bD) (fun hHeld => ?_)
          clear hK K
          refine wpAnyH_done (by kernel_rfl) ?_ _
          go_wp2_with fail
          go_meet
          exact ⟨_, rfl, Nat.le_refl _, hD, bD⟩
      case rest => as_aux_lemma =>
        obtain ⟨xb, rfl, hxb, hXB, hbc⟩ := hcut
        obtain ⟨w5, rfl⟩ : ∃ z, z = wc := ⟨_, rfl⟩
        have hxl := hXB.lt
        have hs5 := hbc.size
        have hc28 := Lib.hid (fun W (hb : Below wi.heap.size wi W) => show W.cell? ⟨gl, ol + i * 29 + 28, none⟩ = some (.slice o.ca o.cn o.ck) from (hrg.out W (hbr.out.trans (hb.mono hbs))) 28 _ rfl)
        have hclF := Lib.hid (hoF.out.cl)
        have hfew := hoF.out.few
        have hcll := Lib.hid (show o.cl.length = o.cn from by
          have := hoF.out.cl.1.length_eq
          rw [flatMap_len iwC_len] at this
          omega)
        have hcn64 : o.cn ≤ 64 := by rw [← hcll.out]; exact hfew
        clear hS5 hb0 hvL1 hvL2 hiL
        go_wp2
        go_loopw [6] (fun jv wr => ∃ (j : Nat) (ca : Option Addr) (cc : Nat), j ≤ o.cn ∧ jv = .int .i64 j ∧ Hid (BlkAt wr xb 88 (owA (o.cls ca j cc))) ∧ Hid (wr.ownsRow w5.heap.size 85 18 (.slice ca j cc) j ((o.cl.take j).flatMap iwC)) ∧ Hid (Below wi.heap.size wi wr) ∧ w5.heap.size ≤ wr.heap.size) (fun jv _ => o.cn - (RowKit.intOf jv).toNat)
        case atStart => exact ⟨0, none, 0, Nat.zero_le _, rfl, Lib.hid hXB, Lib.hid (World.ownsRow_nil _ _ _ _), Lib.hid hbc, Nat.le_refl _⟩
        case round =>
          obtain ⟨j, ca, cc, hj, rfl, hX, hO, hbj, hs5j⟩ := hrel
          obtain ⟨wj, rfl⟩ : ∃ z, z = wr := ⟨_, rfl⟩
          have c28 := hc28.out _ hbj.out
          by_cases hjn : j < o.cn
          · have hjI : (j : Int) < o.cn := by omega
            have hjl : j < o.cl.length := by rw [hcll.out]; exact hjn
            obtain ⟨g2, o2, hca, _⟩ := Rd.addr hclF.out.1 (by omega)
            have hst9 := Lib.hid (show (o.cl.take (j + 1)).flatMap iwC = (o.cl.take j).flatMap iwC ++ iwC o.cl[j] from by rw [List.take_succ_eq_append_getElem hjl, List.flatMap_append, List.flatMap_cons, List.flatMap_nil, List.append_nil])
            have hrg2 : Hid (∀ W, Below wi.heap.size wi W → W.rangeAt g2 (o2 + j * 18) (iwC o.cl[j])) := Lib.hid (fun W hb => by
              have h1 := Rd.below hclF.out.1 (hbr.out.trans (hb.mono hbs)) (Nat.le_refl _)
              rw [hca] at h1
              exact iw_range h1 j hjl)
            generalize o.cl[j] = y at *
            rw [hca] at c28
            have hS9 : Hid (∀ W, Below wi.heap.size wi W → W.cell? ⟨gl, ol + i * 29 + 28, none⟩ = some (.slice (some ⟨g2, o2, none⟩) o.cn o.ck) ∧ W.rangeAt g2 (o2 + j * 18) (iwC y)) := Lib.hid (fun W hb => ⟨by have := hc28.out W hb; rw [hca] at this; exact this, hrg2.out W hb⟩)
            have hyL := Tryd.iwL y
            replace hca := Lib.hid hca
            have hXj := hX.out.drew
            have hOj : wj.drew.ownsRow w5.heap.size 85 18 (.slice ca j cc) j ((o.cl.take j).flatMap iwC) := hO.out
            have hbj := hbj.out.drew
            have hs0 : w5.heap.size ≤ wj.drew.heap.size := hs5j
            clear hX hO hrg2
            go_upto_region 9 with (fail)
            refine wp_region_held_drew (S := fun W => W.cell? ⟨gl, ol + i * 29 + 28, none⟩ = some (.slice (some ⟨g2, o2, none⟩) o.cn o.ck) ∧ W.rangeAt g2 (o2 + j * 18) (iwC y)) (by kernel_rfl) (hS9.out _ hbj) ?_
            intro hHeld
            (refine wpAnyH_take (i := 0) (v := ?_) rfl (by kernel_rfl) (by kernel_rfl) (by kernel_rfl) (fun _ _ _ h => h) (Or.inl ⟨by rfl, ?_⟩) (by assumption) ?_; rotate_left; (focus (intro w hSw; clear hSw; go_simp; (try with_reducible rfl))); (try simp only [Act.put, List.getElem_toArray, List.getElem_cons_zero, List.getElem_cons_succ, List.setIfInBounds_toArray, List.set_cons_zero, List.set_cons_succ]))
            (refine wpAnyH_take (i := 2) (v := ?_) rfl (by kernel_rfl) (by kernel_rfl) (by kernel_rfl) (fun _ _ _ h => h) (Or.inl ⟨by rfl, ?_⟩) (by assumption) ?_; rotate_left; (focus (intro w hSw; clear hSw; go_simp; (try with_reducible rfl))); (try simp only [Act.put, List.getElem_toArray, List.getElem_cons_zero, List.getElem_cons_succ, List.setIfInBounds_toArray, List.set_cons_zero, List.set_cons_succ]))
            (refine wpAnyH_take (i := 3) (v := ?_) rfl (by kernel_rfl) (by kernel_rfl) (by kernel_rfl) (fun _ _ _ h => h) (Or.inl ⟨by rfl, ?_⟩) (by assumption) ?_; rotate_left; (focus (intro w hSw; clear hSw; go_simp; (try with_reducible rfl))); (try simp only [Act.put, List.getElem_toArray, List.getElem_cons_zero, List.getElem_cons_succ, List.setIfInBounds_toArray, List.set_cons_zero, List.set_cons_succ]))
            (refine wpAnyH_take (i := 4) (v := ?_) rfl (by kernel_rfl) (by kernel_rfl) (by kernel_rfl) (fun _ _ _ h => h) (Or.inl ⟨by rfl, ?_⟩) (by assumption) ?_; rotate_left; (focus (intro w hSw; clear hSw; go_simp; (try with_reducible rfl))); (try simp only [Act.put, List.getElem_toArray, List.getElem_cons_zero, List.getElem_cons_succ, List.setIfInBounds_toArray, List.set_cons_zero, List.set_cons_succ]))
            (refine wpAnyH_take (i := 5) (v := ?_) rfl (by kernel_rfl) (by kernel_rfl) (by kernel_rfl) (fun _ _ _ h => h) (Or.inl ⟨by rfl, ?_⟩) (by assumption) ?_; rotate_left; (focus (intro w hSw; clear hSw; go_simp; (try with_reducible rfl))); (try simp only [Act.put, List.getElem_toArray, List.getElem_cons_zero, List.getElem_cons_succ, List.setIfInBounds_toArray, List.set_cons_zero, List.set_cons_succ]))
            (refine wpAnyH_take (i := 6) (v := ?_) rfl (by kernel_rfl) (by kernel_rfl) (by kernel_rfl) (fun _ _ _ h => h) (Or.inl ⟨by rfl, ?_⟩) (by assumption) ?_; rotate_left; (focus (intro w hSw; have hc := hSw.1; clear hSw; go_simp; (try with_reducible rfl))); (try simp only [Act.put, List.getElem_toArray, List.getElem_cons_zero, List.getElem_cons_succ, List.setIfInBounds_toArray, List.set_cons_zero, List.set_cons_succ]))
            (refine wpAnyH_take (i := 7) (v := ?_) rfl (by kernel_rfl) (by kernel_rfl) (by kernel_rfl) (fun _ _ _ h => h) (Or.inl ⟨by rfl, ?_⟩) (by assumption) ?_; rotate_left; (focus (intro w hSw; clear hSw; go_simp; (try with_reducible rfl))); (try simp only [Act.put, List.getElem_toArray, List.getElem_cons_zero, List.getElem_cons_succ, List.setIfInBounds_toArray, List.set_cons_zero, List.set_cons_succ]))
            (refine wpAnyH_take (i := 8) (v := ?_) rfl (by kernel_rfl) (by kernel_rfl) (by kernel_rfl) (fun _ _ _ h => h) (Or.inl ⟨by rfl, ?_⟩) (by assumption) ?_; rotate_left; (focus (intro w hSw; clear hSw; go_simp; (try with_reducible rfl))); (try simp only [Act.put, List.getElem_toArray, List.getElem_cons_zero, List.getElem_cons_succ, List.setIfInBounds_toArray, List.set_cons_zero, List.set_cons_succ]))
            (refine wpAnyH_take (i := 9) (v := .agg (iwC y).toArray) rfl (by kernel_rfl) (by kernel_rfl) (by kernel_rfl) (fun _ _ _ h => h) (yieldsIf_load_mid (by rfl) 45 (.tmp 61) rfl g2 (o2 + j * 18) rfl (iwC y) _ (fun W hW => hW.2) Tryd.underlying45 rfl hyL) (by assumption) ?_; (try simp only [Act.put, List.getElem_toArray, List.getElem_cons_zero, List.getElem_cons_succ, List.setIfInBounds_toArray, List.set_cons_zero, List.set_cons_succ]))
            (refine wpAnyH_ready (rs := [1, 10]) (by kernel_rfl) (by simp) ?_; refine AllReadyH.cons rfl (fun K hK => ?_) (AllReadyH.cons rfl (fun K hK => ?_) AllReadyH.nil))
            · have x28 : (wj.drew).cell? ⟨xb, 28, none⟩ = some (.slice ca j cc) := hXj.cell rfl
              go_simp
              refine hK.out _ _ (hS9.out _ hbj) (fun hHeld => ?_)
              clear hK K x28
              (refine wpAnyH_ready (rs := [10]) (by kernel_rfl) (by simp) ?_; refine AllReadyH.cons rfl (fun K hK => ?_) AllReadyH.nil)
              go_simp
              refine (itm_eq y _).mono ?_
              rintro e wA2 ⟨rfl, hbA2⟩
              have bA2 := belS hbj hbA2
              have hXA2 := hXj.below hbA2 hXj.lt
              have hOA2 := own_belowB hOj hbA2
              have hsA2 := Nat.le_trans hs0 hbA2.size
              refine hK.out _ _ (hS9.out _ bA2) (fun hHeld => ?_)
              clear hK K
              (refine wpAnyH_ready (rs := [11]) (by kernel_rfl) (by simp) ?_; refine AllReadyH.cons rfl (fun K hK => ?_) AllReadyH.nil)
              refine step_buildSlice1 (some 64) rfl rfl 86 85 (.tmp 63) rfl Tryd.riE (by decide) (cs := iwA y) rfl rfl ?_
              (try simp only [Act.put, List.getElem_toArray, List.getElem_cons_zero, List.getElem_cons_succ, List.setIfInBounds_toArray, List.set_cons_zero, List.set_cons_succ])
              have hRd : Rd ((wA2).alloc (.cells (iwA y) 85)) 18 (some ⟨(wA2).heap.size, 0, none⟩) 1 1 (iwC y) := Rd.lit1 rfl rfl
              have bB := bA2.alloc bA2.size (.cells (iwA y) 85)
              have hXB := hXA2.below (alloc_below _ (.cells (iwA y) 85)) hXA2.lt
              have hOB := own_belowB hOA2 (alloc_below _ (.cells (iwA y) 85))
              have hsB : w5.heap.size ≤ ((wA2).alloc (.cells (iwA y) 85)).heap.size := by simp; omega
              refine hK.out _ _ (hS9.out _ bB) (fun hHeld => ?_)
              clear hK K
              (refine wpAnyH_ready (rs := [12]) (by kernel_rfl) (by simp) ?_; refine AllReadyH.cons rfl (fun K hK => ?_) AllReadyH.nil)
              refine step_append_rd Tryd.riE rfl (.tmp 54) (.tmp 64) rfl rfl hOB rfl hRd (by decide) (iwC_one y) (by unfold maxLen; omega) (by omega) hsB ?_
              intro v' w8 ho8 hg8
              obtain ⟨a', c', rfl, _⟩ := Rd.own ho8
              (try simp only [Act.put, List.getElem_toArray, List.getElem_cons_zero, List.getElem_cons_succ, List.setIfInBounds_toArray, List.set_cons_zero, List.set_cons_succ])
              have hb8 := belG bB hg8 bB.size (fun g hg => Nat.le_trans hs5 (hOB.lt g hg).1)
              have hX8 : BlkAt w8 xb 88 (owA (o.cls ca j cc)) := (hg8.block xb hXB.lt (fun e => by have := (hOB.lt xb e.symm).1; omega)).trans hXB
              rw [← hst9.out] at ho8
              refine hK.out _ _ (hS9.out _ hb8) (fun hHeld => ?_)
              clear hK K
              (refine wpAnyH_take (i := 13) (v := ?_) rfl (by kernel_rfl) (by kernel_rfl) (by kernel_rfl) (fun _ _ _ h => h) (Or.inl ⟨by rfl, ?_⟩) (by assumption) ?_; rotate_left; (focus (intro w hSw; clear hSw; go_simp; (try with_reducible rfl))); (try simp only [Act.put, List.getElem_toArray, List.getElem_cons_zero, List.getElem_cons_succ, List.setIfInBounds_toArray, List.set_cons_zero, List.set_cons_succ]))
              (refine wpAnyH_ready (rs := [14]) (by kernel_rfl) (by simp) ?_; refine AllReadyH.cons rfl (fun K hK => ?_) AllReadyH.nil)
              have x28 : w8.cell? ⟨xb, 28, none⟩ = some (.slice ca j cc) := hX8.cell rfl
              have f28 := hX8.fz 28
              go_simp
              have hX9 : BlkAt (w8.setCell ⟨xb, 28, none⟩ (.slice a' (j + 1) c')) xb 88 (owA (o.cls a' (j + 1) c')) := hX8.set 28 _
              have hO9 := own_keep (w' := w8.setCell ⟨xb, 28, none⟩ (.slice a' (j + 1) c')) ho8 (fun g e _ => heap_setCell_other _ _ _ _ (fun e2 => by have h1 := (ho8.lt g e).1; simp only at e2; omega))
              have hb9 := hb8.setCell (p := ⟨xb, 28, none⟩) hxb (.slice a' (j + 1) c')
              have hs9 : w5.heap.size ≤ (w8.setCell ⟨xb, 28, none⟩ (.slice a' (j + 1) c')).heap.size := by have := hg8.size; simp [World.setCell]; omega
              refine hK.out _ _ (hS9.out _ hb9) (fun hHeld => ?_)
              clear hK K
              refine wpAnyH_done (by kernel_rfl) ?_ _
              go_wp2
              go_roundw
              case rel => first | exact ⟨j + 1, a', c', by omega, by go_num, Lib.hid hX9, Lib.hid hO9, Lib.hid hb9, hs9⟩ | ((repeat apply Exists.intro); exact ⟨⟨by omega, by go_num, Lib.hid hX9, Lib.hid hO9, Lib.hid hb9, hs9⟩, rfl⟩)
              case measure => simp [RowKit.intOf]; omega
            · go_simp
              refine (itm_eq y _).mono ?_
              rintro e wA6 ⟨rfl, hbA6⟩
              have bA6 := belS hbj hbA6
              have hXA6 := hXj.below hbA6 hXj.lt
              have hOA6 := own_belowB hOj hbA6
              have hsA6 := Nat.le_trans hs0 hbA6.size
              refine hK.out _ _ (hS9.out _ bA6) (fun hHeld => ?_)
              clear hK K
              (refine wpAnyH_ready (rs := [1, 11]) (by kernel_rfl) (by simp) ?_; refine AllReadyH.cons rfl (fun K hK => ?_) (AllReadyH.cons rfl (fun K hK => ?_) AllReadyH.nil))
              · have x28 : (wA6).cell? ⟨xb, 28, none⟩ = some (.slice ca j cc) := hXA6.cell rfl
                go_simp
                refine hK.out _ _ (hS9.out _ bA6) (fun hHeld => ?_)
                clear hK K x28
                (refine wpAnyH_ready (rs := [11]) (by kernel_rfl) (by simp) ?_; refine AllReadyH.cons rfl (fun K hK => ?_) AllReadyH.nil)
                refine step_buildSlice1 (some 64) rfl rfl 86 85 (.tmp 63) rfl Tryd.riE (by decide) (cs := iwA y) rfl rfl ?_
                (try simp only [Act.put, List.getElem_toArray, List.getElem_cons_zero, List.getElem_cons_succ, List.setIfInBounds_toArray, List.set_cons_zero, List.set_cons_succ])
                have hRd : Rd ((wA6).alloc (.cells (iwA y) 85)) 18 (some ⟨(wA6).heap.size, 0, none⟩) 1 1 (iwC y) := Rd.lit1 rfl rfl
                have bB := bA6.alloc bA6.size (.cells (iwA y) 85)
                have hXB := hXA6.below (alloc_below _ (.cells (iwA y) 85)) hXA6.lt
                have hOB := own_belowB hOA6 (alloc_below _ (.cells (iwA y) 85))
                have hsB : w5.heap.size ≤ ((wA6).alloc (.cells (iwA y) 85)).heap.size := by simp; omega
                refine hK.out _ _ (hS9.out _ bB) (fun hHeld => ?_)
                clear hK K
                (refine wpAnyH_ready (rs := [12]) (by kernel_rfl) (by simp) ?_; refine AllReadyH.cons rfl (fun K hK => ?_) AllReadyH.nil)
                refine step_append_rd Tryd.riE rfl (.tmp 54) (.tmp 64) rfl rfl hOB rfl hRd (by decide) (iwC_one y) (by unfold maxLen; omega) (by omega) hsB ?_
                intro v' w8 ho8 hg8
                obtain ⟨a', c', rfl, _⟩ := Rd.own ho8
                (try simp only [Act.put, List.getElem_toArray, List.getElem_cons_zero, List.getElem_cons_succ, List.setIfInBounds_toArray, List.set_cons_zero, List.set_cons_succ])
                have hb8 := belG bB hg8 bB.size (fun g hg => Nat.le_trans hs5 (hOB.lt g hg).1)
                have hX8 : BlkAt w8 xb 88 (owA (o.cls ca j cc)) := (hg8.block xb hXB.lt (fun e => by have := (hOB.lt xb e.symm).1; omega)).trans hXB
                rw [← hst9.out] at ho8
                refine hK.out _ _ (hS9.out _ hb8) (fun hHeld => ?_)
                clear hK K
                (refine wpAnyH_take (i := 13) (v := ?_) rfl (by kernel_rfl) (by kernel_rfl) (by kernel_rfl) (fun _ _ _ h => h) (Or.inl ⟨by rfl, ?_⟩) (by assumption) ?_; rotate_left; (focus (intro w hSw; clear hSw; go_simp; (try with_reducible rfl))); (try simp only [Act.put, List.getElem_toArray, List.getElem_cons_zero, List.getElem_cons_succ, List.setIfInBounds_toArray, List.set_cons_zero, List.set_cons_succ]))
                (refine wpAnyH_ready (rs := [14]) (by kernel_rfl) (by simp) ?_; refine AllReadyH.cons rfl (fun K hK => ?_) AllReadyH.nil)
                have x28 : w8.cell? ⟨xb, 28, none⟩ = some (.slice ca j cc) := hX8.cell rfl
                have f28 := hX8.fz 28
                go_simp
                have hX9 : BlkAt (w8.setCell ⟨xb, 28, none⟩ (.slice a' (j + 1) c')) xb 88 (owA (o.cls a' (j + 1) c')) := hX8.set 28 _
                have hO9 := own_keep (w' := w8.setCell ⟨xb, 28, none⟩ (.slice a' (j + 1) c')) ho8 (fun g e _ => heap_setCell_other _ _ _ _ (fun e2 => by have h1 := (ho8.lt g e).1; simp only at e2; omega))
                have hb9 := hb8.setCell (p := ⟨xb, 28, none⟩) hxb (.slice a' (j + 1) c')
                have hs9 : w5.heap.size ≤ (w8.setCell ⟨xb, 28, none⟩ (.slice a' (j + 1) c')).heap.size := by have := hg8.size; simp [World.setCell]; omega
                refine hK.out _ _ (hS9.out _ hb9) (fun hHeld => ?_)
                clear hK K
                refine wpAnyH_done (by kernel_rfl) ?_ _
                go_wp2
                go_roundw
                case rel => first | exact ⟨j + 1, a', c', by omega, by go_num, Lib.hid hX9, Lib.hid hO9, Lib.hid hb9, hs9⟩ | ((repeat apply Exists.intro); exact ⟨⟨by omega, by go_num, Lib.hid hX9, Lib.hid hO9, Lib.hid hb9, hs9⟩, rfl⟩)
                case measure => simp [RowKit.intOf]; omega
              · refine step_buildSlice1 (some 64) rfl rfl 86 85 (.tmp 63) rfl Tryd.riE (by decide) (cs := iwA y) rfl rfl ?_
                (try simp only [Act.put, List.getElem_toArray, List.getElem_cons_zero, List.getElem_cons_succ, List.setIfInBounds_toArray, List.set_cons_zero, List.set_cons_succ])
                have hRd : Rd ((wA6).alloc (.cells (iwA y) 85)) 18 (some ⟨(wA6).heap.size, 0, none⟩) 1 1 (iwC y) := Rd.lit1 rfl rfl
                have bB := bA6.alloc bA6.size (.cells (iwA y) 85)
                have hXB := hXA6.below (alloc_below _ (.cells (iwA y) 85)) hXA6.lt
                have hOB := own_belowB hOA6 (alloc_below _ (.cells (iwA y) 85))
                have hsB : w5.heap.size ≤ ((wA6).alloc (.cells (iwA y) 85)).heap.size := by simp; omega
                refine hK.out _ _ (hS9.out _ bB) (fun hHeld => ?_)
                clear hK K
                (refine wpAnyH_ready (rs := [1]) (by kernel_rfl) (by simp) ?_; refine AllReadyH.cons rfl (fun K hK => ?_) AllReadyH.nil)
                have x28 : ((wA6).alloc (.cells (iwA y) 85)).cell? ⟨xb, 28, none⟩ = some (.slice ca j cc) := hXB.cell rfl
                go_simp
                refine hK.out _ _ (hS9.out _ bB) (fun hHeld => ?_)
                clear hK K x28
                (refine wpAnyH_ready (rs := [12]) (by kernel_rfl) (by simp) ?_; refine AllReadyH.cons rfl (fun K hK => ?_) AllReadyH.nil)
                refine step_append_rd Tryd.riE rfl (.tmp 54) (.tmp 64) rfl rfl hOB rfl hRd (by decide) (iwC_one y) (by unfold maxLen; omega) (by omega) hsB ?_
                intro v' w8 ho8 hg8
                obtain ⟨a', c', rfl, _⟩ := Rd.own ho8
                (try simp only [Act.put, List.getElem_toArray, List.getElem_cons_zero, List.getElem_cons_succ, List.setIfInBounds_toArray, List.set_cons_zero, List.set_cons_succ])
                have hb8 := belG bB hg8 bB.size (fun g hg => Nat.le_trans hs5 (hOB.lt g hg).1)
                have hX8 : BlkAt w8 xb 88 (owA (o.cls ca j cc)) := (hg8.block xb hXB.lt (fun e => by have := (hOB.lt xb e.symm).1; omega)).trans hXB
                rw [← hst9.out] at ho8
                refine hK.out _ _ (hS9.out _ hb8) (fun hHeld => ?_)
                clear hK K
                (refine wpAnyH_take (i := 13) (v := ?_) rfl (by kernel_rfl) (by kernel_rfl) (by kernel_rfl) (fun _ _ _ h => h) (Or.inl ⟨by rfl, ?_⟩) (by assumption) ?_; rotate_left; (focus (intro w hSw; clear hSw; go_simp; (try with_reducible rfl))); (try simp only [Act.put, List.getElem_toArray, List.getElem_cons_zero, List.getElem_cons_succ, List.setIfInBounds_toArray, List.set_cons_zero, List.set_cons_succ]))
                (refine wpAnyH_ready (rs := [14]) (by kernel_rfl) (by simp) ?_; refine AllReadyH.cons rfl (fun K hK => ?_) AllReadyH.nil)
                have x28 : w8.cell? ⟨xb, 28, none⟩ = some (.slice ca j cc) := hX8.cell rfl
                have f28 := hX8.fz 28
                go_simp
                have hX9 : BlkAt (w8.setCell ⟨xb, 28, none⟩ (.slice a' (j + 1) c')) xb 88 (owA (o.cls a' (j + 1) c')) := hX8.set 28 _
                have hO9 := own_keep (w' := w8.setCell ⟨xb, 28, none⟩ (.slice a' (j + 1) c')) ho8 (fun g e _ => heap_setCell_other _ _ _ _ (fun e2 => by have h1 := (ho8.lt g e).1; simp only at e2; omega))
                have hb9 := hb8.setCell (p := ⟨xb, 28, none⟩) hxb (.slice a' (j + 1) c')
                have hs9 : w5.heap.size ≤ (w8.setCell ⟨xb, 28, none⟩ (.slice a' (j + 1) c')).heap.size := by have := hg8.size; simp [World.setCell]; omega
                refine hK.out _ _ (hS9.out _ hb9) (fun hHeld => ?_)
                clear hK K
                refine wpAnyH_done (by kernel_rfl) ?_ _
                go_wp2
                go_roundw
                case rel => first | exact ⟨j + 1, a', c', by omega, by go_num, Lib.hid hX9, Lib.hid hO9, Lib.hid hb9, hs9⟩ | ((repeat apply Exists.intro); exact ⟨⟨by omega, by go_num, Lib.hid hX9, Lib.hid hO9, Lib.hid hb9, hs9⟩, rfl⟩)
                case measure => simp [RowKit.intOf]; omega
          · obtain rfl : j = o.cn := by omega
            have hcnj : ¬ (o.cn : Int) < o.cn := by omega
            have hX' := hX.out
            have hb7 := hbj.out.alloc hbj.out.size (.cells (owA (o.cls ca o.cn cc)) 88)
            have hR7 := hR.out.below hb7
            have hltR := fun g e => (hR.out.own.lt g e)
            have hm : ∀ g, (F g ∨ (Value.slice ra i rc).ownBlock = some g) → F g ∨ w.heap.size ≤ g := fun g hg => hg.elim .inl (fun e => .inr (hltR g e).1)
            have hb7w := hbr.out.trans (hb7.mono hbs)
            have hoM := (hoF.out.more hm).below hb7w
            obtain ⟨_, _, eo, hrdO⟩ := Rd.own hO.out
            injection eo with eo1 _ eo3
            subst eo1 eo3
            have hgeO := own_fresh hO.out
            have hOw : OwF (fun g => F g ∨ (Value.slice ra i rc).ownBlock = some g) (wj.alloc (.cells (owA (o.cls ca o.cn cc)) 88)) (o.cls ca o.cn cc) := by
              refine ⟨hoM.it, hoM.iwf, hoM.rd, ⟨Rd.below hrdO (alloc_below _ _) (Nat.le_refl _), Off.fresh (B := w5.heap.size) hgeO (fun g hg => ?_)⟩, fun x hx => hoM.cin x (List.mem_of_mem_take hx), ?_⟩
              · rcases hg with hg | hg
                · have := hF0.out g hg; omega
                · have := (hltR g hg).2; omega
              · have : (o.cl.take o.cn).length ≤ o.cl.length := by rw [List.length_take]; omega
                exact Nat.le_trans this hfew
            have hov : (o.cls ca o.cn cc).v = o.v := by
              show Ov.mk _ _ _ _ ((o.cl.take o.cn).map (·.v)) = _
              rw [List.take_of_length_le (Nat.le_of_eq hcll.out)]
              rfl
            have hsj := hbj.out.size
            replace hov := Lib.hid hov
            replace hOw := Lib.hid hOw
            clear hX hO hrdO hgeO hoM hR hc28 hclF
            go_wp2_with (first
              | (refine wpList_blk_load rfl (.tmp 5) rfl Tryd.underlying88 rfl rfl hX' (Tryd.roI _) ?_)
              | (refine wpList_buildSlice1 rfl 51 88 (.tmp 68) rfl Tryd.roE (by decide) rfl rfl ?_)
              | (at_builtin; refine wpList_append_apart Tryd.roE rfl (.tmp 67) (.tmp 69) rfl hR7.own rfl (Rd.lit1 (cs := owC (o.cls ca o.cn cc)) rfl rfl) (by decide) rfl (owC_one _) (by unfold maxLen; omega) (by omega) (by simp; omega) ?_; intro v' w8 ho8 hg8 hv8; obtain ⟨a', c', rfl, _⟩ := Rd.own ho8))
            have hRN := Lib.hid (hR7.push (m := 1) (ps := [o.cls ca o.cn cc]) (fun p hp => by obtain rfl := List.mem_singleton.1 hp; exact hOw.out) (by simpa using ho8) hg8 hv8)
            have hbN := Lib.hid (belG hb7w hg8 (by simp; omega) (fun g hg => (hR7.own.lt g hg).1))
            go_roundw
            case rel => first | exact ⟨i + 1, a', c', ps ++ [o.cls ca o.cn cc], by omega, by go_num, rfl, hRN, Lib.hid (by rw [List.map_append, hst.out]; show _ ++ [(o.cls ca o.cn cc).v] = _; rw [hov.out]), hbN⟩ | trace_state
            case measure => simp [RowKit.intOf]; omega
    · obtain rfl : i = n := by omega
      have hin2 : ¬ (i : Int) < i := by omega
      have hRF := hR.out.rdO hF0.out
      have hv2 : ps.map (·.v) = os.map (·.v) := by rw [hV.out, List.take_of_length_le (Nat.le_of_eq hlen.out)]
      have hbF := hbr.out
      clear hR hV hin h0
      go_wp2
      go_ret
      first | exact ⟨ra, rc, ps, rfl, hRF, hv2, hbF⟩ | exact ⟨_, _, rfl, ps, hRF, hv2, hbF⟩
end Go.Proofs.YteeeikkapnchlaaDoor
