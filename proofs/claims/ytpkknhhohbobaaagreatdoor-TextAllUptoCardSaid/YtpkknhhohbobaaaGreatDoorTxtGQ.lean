/- text: the writer's message and view -/
import Derived.Test.YtpkknhhohbobaaaGreatDoorTxtFQ
namespace Go.Proofs.YtpkknhhohbobaaaGreatDoor
set_option linter.unusedSimpArgs false
set_option linter.unusedVariables false
open Go.RowKit Go.Sort
/-- What a part of a line's printing leaves: its words, or the panic of a range. -/
def PostW (ok : Bool) (B b : Nat) (ws : List W8) (w : World) (e : Ending) (w' : World) : Prop := (ok = true ∧ e = .returned (.tuple #[]) ∧ WrT B w' b ws ∨ ok = false ∧ e = pan 1) ∧ KpW B b w w'
def MgOk (m : TMg) : Prop := m.seq < 4294967296 ∧ m.stamp < 18446744073709551616 ∧ (∀ d ∈ m.deps, d < 4294967296) ∧ m.pay.length ≤ 1048576
theorem Rd.litn {w : World} {e : TypeId} {cs : List Value} {n b : Nat} (hb : b = w.heap.size) (hn : n = cs.length) (hm : n ≤ maxLen) : Rd (w.alloc (.cells cs.toArray e)) 1 (some ⟨b, 0, none⟩) n n cs := by
  have := Rd.lit (w := w) (cs := cs.toArray) (e := e) hb (by simpa using hn) hm
  simpa using this
section
variable {B b : Nat} {w w' : World} {ws : List W8}
set_option maxHeartbeats 6400000 in
set_option maxRecDepth 100000 in
theorem msg_any (m : TMg) (hm : MgOk m) (da : Option Addr) (dn dc : Nat) (hr : Rd w 1 da dn dc (m.deps.map fun d : Nat => .int .u32 (d : Int))) (hdn : dn ≤ 1048576) (hT : TL w) (h : WrT B w b ws) (hl : ws.length ≤ 1900000) (hB8 : 8 ≤ B) :
    Calls Tryz.prog 67 #[.pointer (some ⟨b, 0, none⟩), .agg #[.int .i64 m.frm, .int .u32 m.seq, .int .u64 m.stamp, .int .i64 m.svc, .slice da dn dc, .string (mkB m.pay)]] w (PostW (prOk m.frm && prOk m.svc) B b (ws ++ msgW m) w) := by
  have hlt := h.lt
  have hBs : B ≤ w.heap.size := by have := h.ge; omega
  obtain ⟨m1, m2, m3, m4⟩ := hm
  have hb1 := alloc_below w (.cells #[.int .i64 m.frm, .int .u32 m.seq, .int .u64 m.stamp, .int .i64 m.svc, .slice da dn dc, .string (mkB m.pay)] 29)
  have hM := BlkAt.new w 29 #[.int .i64 m.frm, .int .u32 m.seq, .int .u64 m.stamp, .int .i64 m.svc, .slice da dn dc, .string (mkB m.pay)]
  obtain ⟨w1, hw1⟩ : ∃ z, z = w.alloc (.cells #[.int .i64 m.frm, .int .u32 m.seq, .int .u64 m.stamp, .int .i64 m.svc, .slice da dn dc, .string (mkB m.pay)] 29) := ⟨_, rfl⟩
  rw [← hw1] at hb1 hM
  obtain ⟨mb, hmb⟩ : ∃ z, z = w.heap.size := ⟨_, rfl⟩
  rw [← hmb] at hM
  have hS := Lib.hid (fun W (hb : Below w1.heap.size w1 W) => show BlkAt W mb 29 #[.int .i64 m.frm, .int .u32 m.seq, .int .u64 m.stamp, .int .i64 m.svc, .slice da dn dc, .string (mkB m.pay)] from hM.below hb hM.lt)
  have hT1 := hT.on hb1
  have hB : Hid (Below w1.heap.size w1 w1.drew) := Lib.hid (Below.refl _ _).drew
  have hW1 := Lib.hid (h.below hb1)
  have HQ := Lib.hid (fun W (hb : Below w1.heap.size w1 W) => num_any m.seq (by omega) W (hT1.on hb))
  have HT := Lib.hid (fun W (hb : Below w1.heap.size w1 W) => num_any m.stamp m2 W (hT1.on hb))
  have hr1 := hr.below hb1 (Nat.le_refl _)
  have HD := Lib.hid (fun W (hb : Below w1.heap.size w1 W) => deps_any m.deps m3 da dn dc W (hT1.on hb) (hr1.below hb (Nat.le_refl _)) hdn)
  have HY := Lib.hid (fun W (_ : Below w1.heap.size w1 W) => bytes_any m.pay m4 W)
  have hws := Lib.hid (show msgW m = [prW m.frm, Lib.decDigits m.seq, Lib.decDigits m.stamp, prW m.svc, depsW m.deps, hexW m.pay] from rfl)
  have hwu : IntKind.u64.wrap (m.seq : Int) = m.seq := by rw [IntKind.wrap_u64]; omega
  have hst := hS.out _ hB.out
  have kb := Lib.hid (KpW.ofBelow (B := B) (b := b) hb1 hBs)
  have hT1' := Lib.hid hT1
  have hsz1 := hb1.size
  replace hw1 := Lib.hid hw1
  replace hmb := Lib.hid hmb
  clear hr hr1 hT hT1 h hM hb1 m1 m2 m3 m4
  cases hf : prOk m.frm with
  | false =>
    have HP := Lib.hid (fun W => proc_no m.frm hf W)
    clear hf HQ HT HD HY
    go_enter Tryz.func67, Tryz.ntmps67
    go_wp2_with (first | (refine wpList_blk_box rfl (.tmp 1) rfl rfl mb hmb.out.symm ?_; rw [← hw1.out]))
    refine wp_region_held_drew (S := fun W => BlkAt W mb 29 #[.int .i64 m.frm, .int .u32 m.seq, .int .u64 m.stamp, .int .i64 m.svc, .slice da dn dc, .string (mkB m.pay)]) (by kernel_rfl) hst ?_
    intro hHeld
    clear hst
    (refine wpAnyH_take (i := 0) (v := ?_) rfl (by kernel_rfl) (by kernel_rfl) (by kernel_rfl) (fun _ _ _ h => h) (Or.inl ⟨by rfl, ?_⟩) (by assumption) ?_; rotate_left; (focus (intro w hSw; clear hSw; go_simp; (try with_reducible rfl))); (try simp only [Act.put, List.getElem_toArray, List.getElem_cons_zero, List.getElem_cons_succ, List.setIfInBounds_toArray, List.set_cons_zero, List.set_cons_succ]))
    (refine wpAnyH_take (i := 1) (v := ?_) rfl (by kernel_rfl) (by kernel_rfl) (by kernel_rfl) (fun _ _ _ h => h) (Or.inl ⟨by rfl, ?_⟩) (by assumption) ?_; rotate_left; (focus (intro w hSw; clear hSw; go_simp; (try with_reducible rfl))); (try simp only [Act.put, List.getElem_toArray, List.getElem_cons_zero, List.getElem_cons_succ, List.setIfInBounds_toArray, List.set_cons_zero, List.set_cons_succ]))
    (refine wpAnyH_take (i := 2) (v := ?_) rfl (by kernel_rfl) (by kernel_rfl) (by kernel_rfl) (fun _ _ _ h => h) (Or.inl ⟨by rfl, ?_⟩) (by assumption) ?_; rotate_left; (focus (intro w hSw; have hc : w.cell? ⟨mb, 0, none⟩ = some (.int .i64 m.frm) := BlkAt.cell hSw rfl; clear hSw; go_simp; (try with_reducible rfl))); (try simp only [Act.put, List.getElem_toArray, List.getElem_cons_zero, List.getElem_cons_succ, List.setIfInBounds_toArray, List.set_cons_zero, List.set_cons_succ]))
    (refine wpAnyH_take (i := 4) (v := ?_) rfl (by kernel_rfl) (by kernel_rfl) (by kernel_rfl) (fun _ _ _ h => h) (Or.inl ⟨by rfl, ?_⟩) (by assumption) ?_; rotate_left; (focus (intro w hSw; clear hSw; go_simp; (try with_reducible rfl))); (try simp only [Act.put, List.getElem_toArray, List.getElem_cons_zero, List.getElem_cons_succ, List.setIfInBounds_toArray, List.set_cons_zero, List.set_cons_succ]))
    (refine wpAnyH_take (i := 5) (v := ?_) rfl (by kernel_rfl) (by kernel_rfl) (by kernel_rfl) (fun _ _ _ h => h) (Or.inl ⟨by rfl, ?_⟩) (by assumption) ?_; rotate_left; (focus (intro w hSw; have hc : w.cell? ⟨mb, 1, none⟩ = some (.int .u32 m.seq) := BlkAt.cell hSw rfl; clear hSw; go_simp; (try with_reducible rfl))); (try simp only [Act.put, List.getElem_toArray, List.getElem_cons_zero, List.getElem_cons_succ, List.setIfInBounds_toArray, List.set_cons_zero, List.set_cons_succ]))
    (refine wpAnyH_take (i := 6) (v := ?_) rfl (by kernel_rfl) (by kernel_rfl) (by kernel_rfl) (fun _ _ _ h => h) (Or.inl ⟨by rfl, ?_⟩) (by assumption) ?_; rotate_left; (focus (intro w hSw; clear hSw; go_simp; (try with_reducible rfl))); (try simp only [Act.put, List.getElem_toArray, List.getElem_cons_zero, List.getElem_cons_succ, List.setIfInBounds_toArray, List.set_cons_zero, List.set_cons_succ]))
    (refine wpAnyH_take (i := 8) (v := ?_) rfl (by kernel_rfl) (by kernel_rfl) (by kernel_rfl) (fun _ _ _ h => h) (Or.inl ⟨by rfl, ?_⟩) (by assumption) ?_; rotate_left; (focus (intro w hSw; clear hSw; go_simp; (try with_reducible rfl))); (try simp only [Act.put, List.getElem_toArray, List.getElem_cons_zero, List.getElem_cons_succ, List.setIfInBounds_toArray, List.set_cons_zero, List.set_cons_succ]))
    (refine wpAnyH_take (i := 9) (v := ?_) rfl (by kernel_rfl) (by kernel_rfl) (by kernel_rfl) (fun _ _ _ h => h) (Or.inl ⟨by rfl, ?_⟩) (by assumption) ?_; rotate_left; (focus (intro w hSw; have hc : w.cell? ⟨mb, 2, none⟩ = some (.int .u64 m.stamp) := BlkAt.cell hSw rfl; clear hSw; go_simp; (try with_reducible rfl))); (try simp only [Act.put, List.getElem_toArray, List.getElem_cons_zero, List.getElem_cons_succ, List.setIfInBounds_toArray, List.set_cons_zero, List.set_cons_succ]))
    (refine wpAnyH_take (i := 11) (v := ?_) rfl (by kernel_rfl) (by kernel_rfl) (by kernel_rfl) (fun _ _ _ h => h) (Or.inl ⟨by rfl, ?_⟩) (by assumption) ?_; rotate_left; (focus (intro w hSw; clear hSw; go_simp; (try with_reducible rfl))); (try simp only [Act.put, List.getElem_toArray, List.getElem_cons_zero, List.getElem_cons_succ, List.setIfInBounds_toArray, List.set_cons_zero, List.set_cons_succ]))
    (refine wpAnyH_take (i := 12) (v := ?_) rfl (by kernel_rfl) (by kernel_rfl) (by kernel_rfl) (fun _ _ _ h => h) (Or.inl ⟨by rfl, ?_⟩) (by assumption) ?_; rotate_left; (focus (intro w hSw; have hc : w.cell? ⟨mb, 3, none⟩ = some (.int .i64 m.svc) := BlkAt.cell hSw rfl; clear hSw; go_simp; (try with_reducible rfl))); (try simp only [Act.put, List.getElem_toArray, List.getElem_cons_zero, List.getElem_cons_succ, List.setIfInBounds_toArray, List.set_cons_zero, List.set_cons_succ]))
    (refine wpAnyH_take (i := 14) (v := ?_) rfl (by kernel_rfl) (by kernel_rfl) (by kernel_rfl) (fun _ _ _ h => h) (Or.inl ⟨by rfl, ?_⟩) (by assumption) ?_; rotate_left; (focus (intro w hSw; clear hSw; go_simp; (try with_reducible rfl))); (try simp only [Act.put, List.getElem_toArray, List.getElem_cons_zero, List.getElem_cons_succ, List.setIfInBounds_toArray, List.set_cons_zero, List.set_cons_succ]))
    (refine wpAnyH_take (i := 15) (v := ?_) rfl (by kernel_rfl) (by kernel_rfl) (by kernel_rfl) (fun _ _ _ h => h) (Or.inl ⟨by rfl, ?_⟩) (by assumption) ?_; rotate_left; (focus (intro w hSw; have hc : w.cell? ⟨mb, 4, none⟩ = some (.slice da dn dc) := BlkAt.cell hSw rfl; clear hSw; go_simp; (try with_reducible rfl))); (try simp only [Act.put, List.getElem_toArray, List.getElem_cons_zero, List.getElem_cons_succ, List.setIfInBounds_toArray, List.set_cons_zero, List.set_cons_succ]))
    (refine wpAnyH_take (i := 17) (v := ?_) rfl (by kernel_rfl) (by kernel_rfl) (by kernel_rfl) (fun _ _ _ h => h) (Or.inl ⟨by rfl, ?_⟩) (by assumption) ?_; rotate_left; (focus (intro w hSw; clear hSw; go_simp; (try with_reducible rfl))); (try simp only [Act.put, List.getElem_toArray, List.getElem_cons_zero, List.getElem_cons_succ, List.setIfInBounds_toArray, List.set_cons_zero, List.set_cons_succ]))
    (refine wpAnyH_take (i := 18) (v := ?_) rfl (by kernel_rfl) (by kernel_rfl) (by kernel_rfl) (fun _ _ _ h => h) (Or.inl ⟨by rfl, ?_⟩) (by assumption) ?_; rotate_left; (focus (intro w hSw; have hc : w.cell? ⟨mb, 5, none⟩ = some (.string (mkB m.pay)) := BlkAt.cell hSw rfl; clear hSw; go_simp; (try with_reducible rfl))); (try simp only [Act.put, List.getElem_toArray, List.getElem_cons_zero, List.getElem_cons_succ, List.setIfInBounds_toArray, List.set_cons_zero, List.set_cons_succ]))
    (refine wpAnyH_ready (rs := [3]) (by kernel_rfl) (by simp) ?_; refine AllReadyH.cons rfl (fun K hK => ?_) AllReadyH.nil)
    go_simp
    refine (HP.out _).mono ?_
    rintro e w3 ⟨rfl, rfl⟩
    exact ⟨rfl, .inr ⟨rfl, rfl⟩, kb.out.trans (KpW.ofBelow hB.out (by omega))⟩
  | true =>
    have HP := Lib.hid (fun W (hb : Below w1.heap.size w1 W) => proc_yes m.frm hf W (hT1'.out.on hb))
    clear hf
    cases hg : prOk m.svc with
    | false =>
      have HG := Lib.hid (fun W => proc_no m.svc hg W)
      clear hg HD HY
      go_enter Tryz.func67, Tryz.ntmps67
      go_wp2_with (first | (refine wpList_blk_box rfl (.tmp 1) rfl rfl mb hmb.out.symm ?_; rw [← hw1.out]))
      refine wp_region_held_drew (S := fun W => BlkAt W mb 29 #[.int .i64 m.frm, .int .u32 m.seq, .int .u64 m.stamp, .int .i64 m.svc, .slice da dn dc, .string (mkB m.pay)]) (by kernel_rfl) hst ?_
      intro hHeld
      clear hst
      (refine wpAnyH_take (i := 0) (v := ?_) rfl (by kernel_rfl) (by kernel_rfl) (by kernel_rfl) (fun _ _ _ h => h) (Or.inl ⟨by rfl, ?_⟩) (by assumption) ?_; rotate_left; (focus (intro w hSw; clear hSw; go_simp; (try with_reducible rfl))); (try simp only [Act.put, List.getElem_toArray, List.getElem_cons_zero, List.getElem_cons_succ, List.setIfInBounds_toArray, List.set_cons_zero, List.set_cons_succ]))
      (refine wpAnyH_take (i := 1) (v := ?_) rfl (by kernel_rfl) (by kernel_rfl) (by kernel_rfl) (fun _ _ _ h => h) (Or.inl ⟨by rfl, ?_⟩) (by assumption) ?_; rotate_left; (focus (intro w hSw; clear hSw; go_simp; (try with_reducible rfl))); (try simp only [Act.put, List.getElem_toArray, List.getElem_cons_zero, List.getElem_cons_succ, List.setIfInBounds_toArray, List.set_cons_zero, List.set_cons_succ]))
      (refine wpAnyH_take (i := 2) (v := ?_) rfl (by kernel_rfl) (by kernel_rfl) (by kernel_rfl) (fun _ _ _ h => h) (Or.inl ⟨by rfl, ?_⟩) (by assumption) ?_; rotate_left; (focus (intro w hSw; have hc : w.cell? ⟨mb, 0, none⟩ = some (.int .i64 m.frm) := BlkAt.cell hSw rfl; clear hSw; go_simp; (try with_reducible rfl))); (try simp only [Act.put, List.getElem_toArray, List.getElem_cons_zero, List.getElem_cons_succ, List.setIfInBounds_toArray, List.set_cons_zero, List.set_cons_succ]))
      (refine wpAnyH_take (i := 4) (v := ?_) rfl (by kernel_rfl) (by kernel_rfl) (by kernel_rfl) (fun _ _ _ h => h) (Or.inl ⟨by rfl, ?_⟩) (by assumption) ?_; rotate_left; (focus (intro w hSw; clear hSw; go_simp; (try with_reducible rfl))); (try simp only [Act.put, List.getElem_toArray, List.getElem_cons_zero, List.getElem_cons_succ, List.setIfInBounds_toArray, List.set_cons_zero, List.set_cons_succ]))
      (refine wpAnyH_take (i := 5) (v := ?_) rfl (by kernel_rfl) (by kernel_rfl) (by kernel_rfl) (fun _ _ _ h => h) (Or.inl ⟨by rfl, ?_⟩) (by assumption) ?_; rotate_left; (focus (intro w hSw; have hc : w.cell? ⟨mb, 1, none⟩ = some (.int .u32 m.seq) := BlkAt.cell hSw rfl; clear hSw; go_simp; (try with_reducible rfl))); (try simp only [Act.put, List.getElem_toArray, List.getElem_cons_zero, List.getElem_cons_succ, List.setIfInBounds_toArray, List.set_cons_zero, List.set_cons_succ]))
      (refine wpAnyH_take (i := 6) (v := ?_) rfl (by kernel_rfl) (by kernel_rfl) (by kernel_rfl) (fun _ _ _ h => h) (Or.inl ⟨by rfl, ?_⟩) (by assumption) ?_; rotate_left; (focus (intro w hSw; clear hSw; go_simp; (try with_reducible rfl))); (try simp only [Act.put, List.getElem_toArray, List.getElem_cons_zero, List.getElem_cons_succ, List.setIfInBounds_toArray, List.set_cons_zero, List.set_cons_succ]))
      (refine wpAnyH_take (i := 8) (v := ?_) rfl (by kernel_rfl) (by kernel_rfl) (by kernel_rfl) (fun _ _ _ h => h) (Or.inl ⟨by rfl, ?_⟩) (by assumption) ?_; rotate_left; (focus (intro w hSw; clear hSw; go_simp; (try with_reducible rfl))); (try simp only [Act.put, List.getElem_toArray, List.getElem_cons_zero, List.getElem_cons_succ, List.setIfInBounds_toArray, List.set_cons_zero, List.set_cons_succ]))
      (refine wpAnyH_take (i := 9) (v := ?_) rfl (by kernel_rfl) (by kernel_rfl) (by kernel_rfl) (fun _ _ _ h => h) (Or.inl ⟨by rfl, ?_⟩) (by assumption) ?_; rotate_left; (focus (intro w hSw; have hc : w.cell? ⟨mb, 2, none⟩ = some (.int .u64 m.stamp) := BlkAt.cell hSw rfl; clear hSw; go_simp; (try with_reducible rfl))); (try simp only [Act.put, List.getElem_toArray, List.getElem_cons_zero, List.getElem_cons_succ, List.setIfInBounds_toArray, List.set_cons_zero, List.set_cons_succ]))
      (refine wpAnyH_take (i := 11) (v := ?_) rfl (by kernel_rfl) (by kernel_rfl) (by kernel_rfl) (fun _ _ _ h => h) (Or.inl ⟨by rfl, ?_⟩) (by assumption) ?_; rotate_left; (focus (intro w hSw; clear hSw; go_simp; (try with_reducible rfl))); (try simp only [Act.put, List.getElem_toArray, List.getElem_cons_zero, List.getElem_cons_succ, List.setIfInBounds_toArray, List.set_cons_zero, List.set_cons_succ]))
      (refine wpAnyH_take (i := 12) (v := ?_) rfl (by kernel_rfl) (by kernel_rfl) (by kernel_rfl) (fun _ _ _ h => h) (Or.inl ⟨by rfl, ?_⟩) (by assumption) ?_; rotate_left; (focus (intro w hSw; have hc : w.cell? ⟨mb, 3, none⟩ = some (.int .i64 m.svc) := BlkAt.cell hSw rfl; clear hSw; go_simp; (try with_reducible rfl))); (try simp only [Act.put, List.getElem_toArray, List.getElem_cons_zero, List.getElem_cons_succ, List.setIfInBounds_toArray, List.set_cons_zero, List.set_cons_succ]))
      (refine wpAnyH_take (i := 14) (v := ?_) rfl (by kernel_rfl) (by kernel_rfl) (by kernel_rfl) (fun _ _ _ h => h) (Or.inl ⟨by rfl, ?_⟩) (by assumption) ?_; rotate_left; (focus (intro w hSw; clear hSw; go_simp; (try with_reducible rfl))); (try simp only [Act.put, List.getElem_toArray, List.getElem_cons_zero, List.getElem_cons_succ, List.setIfInBounds_toArray, List.set_cons_zero, List.set_cons_succ]))
      (refine wpAnyH_take (i := 15) (v := ?_) rfl (by kernel_rfl) (by kernel_rfl) (by kernel_rfl) (fun _ _ _ h => h) (Or.inl ⟨by rfl, ?_⟩) (by assumption) ?_; rotate_left; (focus (intro w hSw; have hc : w.cell? ⟨mb, 4, none⟩ = some (.slice da dn dc) := BlkAt.cell hSw rfl; clear hSw; go_simp; (try with_reducible rfl))); (try simp only [Act.put, List.getElem_toArray, List.getElem_cons_zero, List.getElem_cons_succ, List.setIfInBounds_toArray, List.set_cons_zero, List.set_cons_succ]))
      (refine wpAnyH_take (i := 17) (v := ?_) rfl (by kernel_rfl) (by kernel_rfl) (by kernel_rfl) (fun _ _ _ h => h) (Or.inl ⟨by rfl, ?_⟩) (by assumption) ?_; rotate_left; (focus (intro w hSw; clear hSw; go_simp; (try with_reducible rfl))); (try simp only [Act.put, List.getElem_toArray, List.getElem_cons_zero, List.getElem_cons_succ, List.setIfInBounds_toArray, List.set_cons_zero, List.set_cons_succ]))
      (refine wpAnyH_take (i := 18) (v := ?_) rfl (by kernel_rfl) (by kernel_rfl) (by kernel_rfl) (fun _ _ _ h => h) (Or.inl ⟨by rfl, ?_⟩) (by assumption) ?_; rotate_left; (focus (intro w hSw; have hc : w.cell? ⟨mb, 5, none⟩ = some (.string (mkB m.pay)) := BlkAt.cell hSw rfl; clear hSw; go_simp; (try with_reducible rfl))); (try simp only [Act.put, List.getElem_toArray, List.getElem_cons_zero, List.getElem_cons_succ, List.setIfInBounds_toArray, List.set_cons_zero, List.set_cons_succ]))
      ((refine wpAnyH_ready (rs := [3]) (by kernel_rfl) (by simp) ?_; refine AllReadyH.cons rfl (fun K hK => ?_) AllReadyH.nil); go_simp; refine (HP.out _ hB.out).mono ?_; rintro e w3 ⟨rfl, hb⟩; replace hB := Lib.hid (belS hB.out hb); clear hb; refine hK.out _ _ (hS.out _ hB.out) (fun hHeld => ?_); clear hK K)
      ((refine wpAnyH_ready (rs := [7]) (by kernel_rfl) (by simp) ?_; refine AllReadyH.cons rfl (fun K hK => ?_) AllReadyH.nil); go_simp; refine (HQ.out _ hB.out).mono ?_; rintro e w4 ⟨rfl, hb⟩; replace hB := Lib.hid (belS hB.out hb); clear hb; refine hK.out _ _ (hS.out _ hB.out) (fun hHeld => ?_); clear hK K)
      ((refine wpAnyH_ready (rs := [10]) (by kernel_rfl) (by simp) ?_; refine AllReadyH.cons rfl (fun K hK => ?_) AllReadyH.nil); go_simp; refine (HT.out _ hB.out).mono ?_; rintro e w5 ⟨rfl, hb⟩; replace hB := Lib.hid (belS hB.out hb); clear hb; refine hK.out _ _ (hS.out _ hB.out) (fun hHeld => ?_); clear hK K)
      (refine wpAnyH_ready (rs := [13]) (by kernel_rfl) (by simp) ?_; refine AllReadyH.cons rfl (fun K hK => ?_) AllReadyH.nil)
      go_simp
      refine (HG.out _).mono ?_
      rintro e w6 ⟨rfl, rfl⟩
      exact ⟨rfl, .inr ⟨rfl, rfl⟩, kb.out.trans (KpW.ofBelow hB.out (by omega))⟩
    | true =>
      have HG := Lib.hid (fun W (hb : Below w1.heap.size w1 W) => proc_yes m.svc hg W (hT1'.out.on hb))
      clear hg
      go_enter Tryz.func67, Tryz.ntmps67
      go_wp2_with (first | (refine wpList_blk_box rfl (.tmp 1) rfl rfl mb hmb.out.symm ?_; rw [← hw1.out]))
      refine wp_region_held_drew (S := fun W => BlkAt W mb 29 #[.int .i64 m.frm, .int .u32 m.seq, .int .u64 m.stamp, .int .i64 m.svc, .slice da dn dc, .string (mkB m.pay)]) (by kernel_rfl) hst ?_
      intro hHeld
      clear hst
      (refine wpAnyH_take (i := 0) (v := ?_) rfl (by kernel_rfl) (by kernel_rfl) (by kernel_rfl) (fun _ _ _ h => h) (Or.inl ⟨by rfl, ?_⟩) (by assumption) ?_; rotate_left; (focus (intro w hSw; clear hSw; go_simp; (try with_reducible rfl))); (try simp only [Act.put, List.getElem_toArray, List.getElem_cons_zero, List.getElem_cons_succ, List.setIfInBounds_toArray, List.set_cons_zero, List.set_cons_succ]))
      (refine wpAnyH_take (i := 1) (v := ?_) rfl (by kernel_rfl) (by kernel_rfl) (by kernel_rfl) (fun _ _ _ h => h) (Or.inl ⟨by rfl, ?_⟩) (by assumption) ?_; rotate_left; (focus (intro w hSw; clear hSw; go_simp; (try with_reducible rfl))); (try simp only [Act.put, List.getElem_toArray, List.getElem_cons_zero, List.getElem_cons_succ, List.setIfInBounds_toArray, List.set_cons_zero, List.set_cons_succ]))
      (refine wpAnyH_take (i := 2) (v := ?_) rfl (by kernel_rfl) (by kernel_rfl) (by kernel_rfl) (fun _ _ _ h => h) (Or.inl ⟨by rfl, ?_⟩) (by assumption) ?_; rotate_left; (focus (intro w hSw; have hc : w.cell? ⟨mb, 0, none⟩ = some (.int .i64 m.frm) := BlkAt.cell hSw rfl; clear hSw; go_simp; (try with_reducible rfl))); (try simp only [Act.put, List.getElem_toArray, List.getElem_cons_zero, List.getElem_cons_succ, List.setIfInBounds_toArray, List.set_cons_zero, List.set_cons_succ]))
      (refine wpAnyH_take (i := 4) (v := ?_) rfl (by kernel_rfl) (by kernel_rfl) (by kernel_rfl) (fun _ _ _ h => h) (Or.inl ⟨by rfl, ?_⟩) (by assumption) ?_; rotate_left; (focus (intro w hSw; clear hSw; go_simp; (try with_reducible rfl))); (try simp only [Act.put, List.getElem_toArray, List.getElem_cons_zero, List.getElem_cons_succ, List.setIfInBounds_toArray, List.set_cons_zero, List.set_cons_succ]))
      (refine wpAnyH_take (i := 5) (v := ?_) rfl (by kernel_rfl) (by kernel_rfl) (by kernel_rfl) (fun _ _ _ h => h) (Or.inl ⟨by rfl, ?_⟩) (by assumption) ?_; rotate_left; (focus (intro w hSw; have hc : w.cell? ⟨mb, 1, none⟩ = some (.int .u32 m.seq) := BlkAt.cell hSw rfl; clear hSw; go_simp; (try with_reducible rfl))); (try simp only [Act.put, List.getElem_toArray, List.getElem_cons_zero, List.getElem_cons_succ, List.setIfInBounds_toArray, List.set_cons_zero, List.set_cons_succ]))
      (refine wpAnyH_take (i := 6) (v := ?_) rfl (by kernel_rfl) (by kernel_rfl) (by kernel_rfl) (fun _ _ _ h => h) (Or.inl ⟨by rfl, ?_⟩) (by assumption) ?_; rotate_left; (focus (intro w hSw; clear hSw; go_simp; (try with_reducible rfl))); (try simp only [Act.put, List.getElem_toArray, List.getElem_cons_zero, List.getElem_cons_succ, List.setIfInBounds_toArray, List.set_cons_zero, List.set_cons_succ]))
      (refine wpAnyH_take (i := 8) (v := ?_) rfl (by kernel_rfl) (by kernel_rfl) (by kernel_rfl) (fun _ _ _ h => h) (Or.inl ⟨by rfl, ?_⟩) (by assumption) ?_; rotate_left; (focus (intro w hSw; clear hSw; go_simp; (try with_reducible rfl))); (try simp only [Act.put, List.getElem_toArray, List.getElem_cons_zero, List.getElem_cons_succ, List.setIfInBounds_toArray, List.set_cons_zero, List.set_cons_succ]))
      (refine wpAnyH_take (i := 9) (v := ?_) rfl (by kernel_rfl) (by kernel_rfl) (by kernel_rfl) (fun _ _ _ h => h) (Or.inl ⟨by rfl, ?_⟩) (by assumption) ?_; rotate_left; (focus (intro w hSw; have hc : w.cell? ⟨mb, 2, none⟩ = some (.int .u64 m.stamp) := BlkAt.cell hSw rfl; clear hSw; go_simp; (try with_reducible rfl))); (try simp only [Act.put, List.getElem_toArray, List.getElem_cons_zero, List.getElem_cons_succ, List.setIfInBounds_toArray, List.set_cons_zero, List.set_cons_succ]))
      (refine wpAnyH_take (i := 11) (v := ?_) rfl (by kernel_rfl) (by kernel_rfl) (by kernel_rfl) (fun _ _ _ h => h) (Or.inl ⟨by rfl, ?_⟩) (by assumption) ?_; rotate_left; (focus (intro w hSw; clear hSw; go_simp; (try with_reducible rfl))); (try simp only [Act.put, List.getElem_toArray, List.getElem_cons_zero, List.getElem_cons_succ, List.setIfInBounds_toArray, List.set_cons_zero, List.set_cons_succ]))
      (refine wpAnyH_take (i := 12) (v := ?_) rfl (by kernel_rfl) (by kernel_rfl) (by kernel_rfl) (fun _ _ _ h => h) (Or.inl ⟨by rfl, ?_⟩) (by assumption) ?_; rotate_left; (focus (intro w hSw; have hc : w.cell? ⟨mb, 3, none⟩ = some (.int .i64 m.svc) := BlkAt.cell hSw rfl; clear hSw; go_simp; (try with_reducible rfl))); (try simp only [Act.put, List.getElem_toArray, List.getElem_cons_zero, List.getElem_cons_succ, List.setIfInBounds_toArray, List.set_cons_zero, List.set_cons_succ]))
      (refine wpAnyH_take (i := 14) (v := ?_) rfl (by kernel_rfl) (by kernel_rfl) (by kernel_rfl) (fun _ _ _ h => h) (Or.inl ⟨by rfl, ?_⟩) (by assumption) ?_; rotate_left; (focus (intro w hSw; clear hSw; go_simp; (try with_reducible rfl))); (try simp only [Act.put, List.getElem_toArray, List.getElem_cons_zero, List.getElem_cons_succ, List.setIfInBounds_toArray, List.set_cons_zero, List.set_cons_succ]))
      (refine wpAnyH_take (i := 15) (v := ?_) rfl (by kernel_rfl) (by kernel_rfl) (by kernel_rfl) (fun _ _ _ h => h) (Or.inl ⟨by rfl, ?_⟩) (by assumption) ?_; rotate_left; (focus (intro w hSw; have hc : w.cell? ⟨mb, 4, none⟩ = some (.slice da dn dc) := BlkAt.cell hSw rfl; clear hSw; go_simp; (try with_reducible rfl))); (try simp only [Act.put, List.getElem_toArray, List.getElem_cons_zero, List.getElem_cons_succ, List.setIfInBounds_toArray, List.set_cons_zero, List.set_cons_succ]))
      (refine wpAnyH_take (i := 17) (v := ?_) rfl (by kernel_rfl) (by kernel_rfl) (by kernel_rfl) (fun _ _ _ h => h) (Or.inl ⟨by rfl, ?_⟩) (by assumption) ?_; rotate_left; (focus (intro w hSw; clear hSw; go_simp; (try with_reducible rfl))); (try simp only [Act.put, List.getElem_toArray, List.getElem_cons_zero, List.getElem_cons_succ, List.setIfInBounds_toArray, List.set_cons_zero, List.set_cons_succ]))
      (refine wpAnyH_take (i := 18) (v := ?_) rfl (by kernel_rfl) (by kernel_rfl) (by kernel_rfl) (fun _ _ _ h => h) (Or.inl ⟨by rfl, ?_⟩) (by assumption) ?_; rotate_left; (focus (intro w hSw; have hc : w.cell? ⟨mb, 5, none⟩ = some (.string (mkB m.pay)) := BlkAt.cell hSw rfl; clear hSw; go_simp; (try with_reducible rfl))); (try simp only [Act.put, List.getElem_toArray, List.getElem_cons_zero, List.getElem_cons_succ, List.setIfInBounds_toArray, List.set_cons_zero, List.set_cons_succ]))
      ((refine wpAnyH_ready (rs := [3]) (by kernel_rfl) (by simp) ?_; refine AllReadyH.cons rfl (fun K hK => ?_) AllReadyH.nil); go_simp; refine (HP.out _ hB.out).mono ?_; rintro e w3 ⟨rfl, hb⟩; replace hB := Lib.hid (belS hB.out hb); clear hb; refine hK.out _ _ (hS.out _ hB.out) (fun hHeld => ?_); clear hK K)
      ((refine wpAnyH_ready (rs := [7]) (by kernel_rfl) (by simp) ?_; refine AllReadyH.cons rfl (fun K hK => ?_) AllReadyH.nil); go_simp; refine (HQ.out _ hB.out).mono ?_; rintro e w4 ⟨rfl, hb⟩; replace hB := Lib.hid (belS hB.out hb); clear hb; refine hK.out _ _ (hS.out _ hB.out) (fun hHeld => ?_); clear hK K)
      ((refine wpAnyH_ready (rs := [10]) (by kernel_rfl) (by simp) ?_; refine AllReadyH.cons rfl (fun K hK => ?_) AllReadyH.nil); go_simp; refine (HT.out _ hB.out).mono ?_; rintro e w5 ⟨rfl, hb⟩; replace hB := Lib.hid (belS hB.out hb); clear hb; refine hK.out _ _ (hS.out _ hB.out) (fun hHeld => ?_); clear hK K)
      ((refine wpAnyH_ready (rs := [13]) (by kernel_rfl) (by simp) ?_; refine AllReadyH.cons rfl (fun K hK => ?_) AllReadyH.nil); go_simp; refine (HG.out _ hB.out).mono ?_; rintro e w6 ⟨rfl, hb⟩; replace hB := Lib.hid (belS hB.out hb); clear hb; refine hK.out _ _ (hS.out _ hB.out) (fun hHeld => ?_); clear hK K)
      ((refine wpAnyH_ready (rs := [16]) (by kernel_rfl) (by simp) ?_; refine AllReadyH.cons rfl (fun K hK => ?_) AllReadyH.nil); go_simp; refine (HD.out _ hB.out).mono ?_; rintro e w7 ⟨rfl, hb⟩; replace hB := Lib.hid (belS hB.out hb); clear hb; refine hK.out _ _ (hS.out _ hB.out) (fun hHeld => ?_); clear hK K)
      ((refine wpAnyH_ready (rs := [19]) (by kernel_rfl) (by simp) ?_; refine AllReadyH.cons rfl (fun K hK => ?_) AllReadyH.nil); go_simp; refine (HY.out _ hB.out).mono ?_; rintro e w8 ⟨rfl, hb⟩; replace hB := Lib.hid (belS hB.out hb); clear hb; refine hK.out _ _ (hS.out _ hB.out) (fun hHeld => ?_); clear hK K)
      (refine wpAnyH_ready (rs := [20]) (by kernel_rfl) (by simp) ?_; refine AllReadyH.cons rfl (fun K hK => ?_) AllReadyH.nil)
      refine step_buildSlice (some 24) rfl rfl 56 9 6 #[(0, .tmp 7), (1, .tmp 11), (2, .tmp 14), (3, .tmp 17), (4, .tmp 20), (5, .tmp 23)] rfl Tryz.stE (by decide) (by decide) ((msgW m).map sv).toArray ?_ ?_
      · rw [hws.out]; kernel_rfl
      have hb9 := (Below.refl w8.heap.size w8).alloc (Nat.le_refl _) (.cells ((msgW m).map sv).toArray 9)
      have hr9 : Rd (w8.alloc (.cells ((msgW m).map sv).toArray 9)) 1 (some ⟨w8.heap.size, 0, none⟩) 6 6 ((msgW m).map sv) := Rd.litn rfl (by rw [hws.out]; rfl) (by decide)
      replace hB := Lib.hid (belS hB.out hb9)
      generalize w8.heap.size = rb at *
      generalize w8.alloc (.cells ((msgW m).map sv).toArray 9) = w9 at *
      refine hK.out _ _ (hS.out _ hB.out) (fun hHeld => ?_)
      clear hK K
      have HS := Lib.hid (say_any (some ⟨rb, 0, none⟩) 6 6 (hW1.out.below hB.out) hr9 (by decide) (by decide) (by omega))
      have hS9 := Lib.hid (hS.out _ hB.out)
      have kb9 := Lib.hid (kb.out.trans (KpW.ofBelow hB.out (by omega)))
      clear hr9 hb9
      (refine wpAnyH_ready (rs := [21]) (by kernel_rfl) (by simp) ?_; refine AllReadyH.cons rfl (fun K hK => ?_) AllReadyH.nil)
      go_simp
      refine HS.out.mono ?_
      rintro e w10 ⟨rfl, hW10, hk10⟩
      refine hK.out _ _ (hk10.blk hS9.out (by rw [hmb.out]; omega) (by decide)) (fun hHeld => ?_)
      clear hK K
      refine wpAnyH_done (by kernel_rfl) ?_ _
      go_wp2
      go_end0
      exact ⟨.inl ⟨rfl, rfl, hW10⟩, kb9.out.trans hk10⟩
end
end Go.Proofs.YtpkknhhohbobaaaGreatDoor
