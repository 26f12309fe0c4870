/- text: the writer's view -/
import Derived.Test.YtpkknhhohbobaaaGreatDoorTxtGQ
namespace Go.Proofs.YtpkknhhohbobaaaGreatDoor
set_option linter.unusedSimpArgs false
set_option linter.unusedVariables false
open Go.RowKit Go.Sort
/-- An event's cells. -/
def evC (x : TEv) (da : Option Addr) (dn dc : Nat) (na : Option Addr) (nn nc : Nat) : Array Value := #[.int .i64 x.kind, .int .i64 x.proc, .int .u64 x.conf.ep, .int .i64 x.conf.rp, .int .u64 x.new.ep, .int .i64 x.new.rp, .int .u64 x.mem, .int .i64 x.m.frm, .int .u32 x.m.seq, .int .u64 x.m.stamp, .int .i64 x.m.svc, .slice da dn dc, .string (mkB x.m.pay), .int .u64 x.num, .int .u64 x.vconf.ep, .int .i64 x.vconf.rp, .int .u64 x.vmem, .slice na nn nc, .string (mkB x.state)]
def nmC (n : TNm) : List Value := [.int .i64 n.proc, .int .u32 n.inc]
theorem nmC_len (n : TNm) : (nmC n).length = 2 := rfl
theorem KpW.rd {B b : Nat} {x y : World} {size n c : Nat} {a : Option Addr} {xs : List Value} (k : KpW B b x y) (h : Rd x size a n c xs) (hb : n ≠ 0 → ∀ g off, a = some ⟨g, off, none⟩ → g < B) : Rd y size a n c xs := by
  by_cases h0 : n = 0
  · exact ⟨h.1, .inl h0⟩
  · rcases h.2 with h1 | ⟨g, off, rfl, hlt, hc⟩
    · exact absurd h1 h0
    · refine ⟨h.1, .inr ⟨g, off, rfl, Nat.lt_of_lt_of_le hlt k.size, fun j u hj => ?_⟩⟩
      rw [World.cell?_of_block (w := x) (k.low g (hb h0 g off rfl))]
      exact hc j u hj
/-- An event's rows, and bounds. -/
structure EvR (w : World) (x : TEv) (da : Option Addr) (dn dc : Nat) (na : Option Addr) (nn nc : Nat) : Prop where
  wf : x.Wf
  dr : Rd w 1 da dn dc (x.m.deps.map fun d : Nat => .int .u32 (d : Int))
  nr : Rd w 2 na nn nc (x.names.flatMap nmC)
  dn : dn ≤ 1048576
  nn : nn ≤ 1048576
  pay : x.m.pay.length ≤ 1048576
  st : x.state.length ≤ 1048576
structure EvB (B : Nat) (da : Option Addr) (dn : Nat) (na : Option Addr) (nn : Nat) : Prop where
  d : dn ≠ 0 → ∀ g off, da = some ⟨g, off, none⟩ → g < B
  n : nn ≠ 0 → ∀ g off, na = some ⟨g, off, none⟩ → g < B
section
variable {B b : Nat} {w w' : World} {ws : List W8} {x : TEv} {da na : Option Addr} {dn dc nn nc : Nat}
theorem EvR.below (h : EvR w x da dn dc na nn nc) (hb : Below w.heap.size w w') : EvR w' x da dn dc na nn nc := ⟨h.wf, h.dr.below hb (Nat.le_refl _), h.nr.below hb (Nat.le_refl _), h.dn, h.nn, h.pay, h.st⟩
theorem EvR.kpW (h : EvR w x da dn dc na nn nc) (hb : EvB B da dn na nn) (k : KpW B b w w') : EvR w' x da dn dc na nn nc := ⟨h.wf, k.rd h.dr hb.d, k.rd h.nr hb.n, h.dn, h.nn, h.pay, h.st⟩
theorem EvR.nlen (h : EvR w x da dn dc na nn nc) : x.names.length = nn := by
  have := h.nr.length_eq
  rw [flatMap_len nmC_len] at this
  omega
def viewOk (x : TEv) : Bool := prOk x.vconf.rp && (decide (x.kind = 7) || decide (x.names.length = 1)) && x.names.all (fun n => prOk n.proc)
theorem Tryz.cfL (a b : Int) : (Tryz.prog.info? 25).map (·.size) = some [Value.int .u64 a, .int .i64 b].length := by show _ = some 2; kernel_rfl
theorem Tryz.evI : (Tryz.prog.info? 34).map (·.size) = some (evC x da dn dc na nn nc).size := by show _ = some 19; kernel_rfl
theorem rng2 {u v : Value} {cs : Array Value} {p : Nat} (h0 : cs[p]? = some u) (h1 : cs[p + 1]? = some v) : ∀ (j : Nat) (y : Value), [u, v][j]? = some y → cs[p + j]? = some y := by
  intro j y hj
  rcases j with _ | _ | j
  · injection hj with hj; subst hj; exact h0
  · injection hj with hj; subst hj; exact h1
  · simp at hj
theorem ev_conf {W : World} {mb : Nat} {t : TypeId} (h : BlkAt W mb t (evC x da dn dc na nn nc)) : W.rangeAt mb 2 [.int .u64 x.conf.ep, .int .i64 x.conf.rp] := h.range (rng2 rfl rfl)
theorem ev_new {W : World} {mb : Nat} {t : TypeId} (h : BlkAt W mb t (evC x da dn dc na nn nc)) : W.rangeAt mb 4 [.int .u64 x.new.ep, .int .i64 x.new.rp] := h.range (rng2 rfl rfl)
theorem ev_vconf {W : World} {mb : Nat} {t : TypeId} (h : BlkAt W mb t (evC x da dn dc na nn nc)) : W.rangeAt mb 14 [.int .u64 x.vconf.ep, .int .i64 x.vconf.rp] := h.range (rng2 rfl rfl)

theorem own_nm {w : World} {g off n c : Nat} {l : List TNm} (h : Rd w 2 (some ⟨g, off, none⟩) n c (l.flatMap nmC)) (k : Nat) (hk : k < l.length) : w.cell? ⟨g, off + k * 2, none⟩ = some (.int .i64 l[k].proc) ∧ w.cell? ⟨g, off + k * 2 + 1, none⟩ = some (.int .u32 l[k].inc) := by
  have h0 := flatMap_get nmC_len l k 0 (by decide)
  have h1 := flatMap_get nmC_len l k 1 (by decide)
  rw [List.getElem?_eq_getElem hk] at h0 h1
  exact ⟨h.at h0, h.at h1⟩
set_option maxHeartbeats 12800000 in
set_option maxRecDepth 100000 in
theorem view_any (hE : EvR w x da dn dc na nn nc) (hEB : EvB B da dn na nn) (hT : TL w) (h : WrT B w b ws) (hl : ws.length ≤ 100) (hB8 : 8 ≤ B) :
    Calls Tryz.prog 66 #[.pointer (some ⟨b, 0, none⟩), .agg (evC x da dn dc na nn nc)] w (PostW (viewOk x) B b (ws ++ (fieldW .v x ++ x.names.map nameW)) w) := by
  have hlt := h.lt
  have hBs : B ≤ w.heap.size := by have := h.ge; omega
  have hb1 := alloc_below w (.cells (evC x da dn dc na nn nc) 34)
  have hM := BlkAt.new w 34 (evC x da dn dc na nn nc)
  obtain ⟨w1, hw1⟩ : ∃ z, z = w.alloc (.cells (evC x da dn dc na nn nc) 34) := ⟨_, rfl⟩
  rw [← hw1] at hb1 hM
  obtain ⟨mb, hmb⟩ : ∃ z, z = w.heap.size := ⟨_, rfl⟩
  rw [← hmb] at hM
  have hS := Lib.hid (fun W (hb : Below w1.heap.size w1 W) => show BlkAt W mb 34 (evC x da dn dc na nn nc) from hM.below hb hM.lt)
  have hT1 := hT.on hb1
  have hB : Hid (Below w1.heap.size w1 w1.drew) := Lib.hid (Below.refl _ _).drew
  have hW1 := Lib.hid (h.below hb1)
  obtain ⟨⟨f1, f2, f3⟩, ⟨f4, f5, f6⟩, f7, f8⟩ := hE.wf
  have HQ := Lib.hid (fun W (hb : Below w1.heap.size w1 W) => num_any x.num f5 W (hT1.on hb))
  have HV := Lib.hid (fun W (hb : Below w1.heap.size w1 W) => num_any x.vmem f6 W (hT1.on hb))
  have hst := hS.out _ hB.out
  have kb := Lib.hid (KpW.ofBelow (B := B) (b := b) hb1 hBs)
  have hT1' := Lib.hid hT1
  have hsz1 := hb1.size
  have hE1 := Lib.hid (hE.below hb1)
  have hnl := Lib.hid hE.nlen
  have hn8 := Lib.hid f8
  have hcL := Tryz.cfL x.vconf.ep x.vconf.rp
  have hM1 := Lib.hid hM
  have hmbb : mb ≠ b := by omega
  have hmw : mb < w1.heap.size := hM.lt
  replace hw1 := Lib.hid hw1
  replace hmb := Lib.hid hmb
  cases hf : prOk x.vconf.rp with
  | false =>
    have HC := Lib.hid (fun W (hb : Below w1.heap.size w1 W) => conf_no x.vconf hf f3 W (hT1.on hb))
    have hvo : Hid (viewOk x = false) := Lib.hid (by unfold viewOk; rw [hf]; rfl)
    clear hf HV hE hT hT1 h hM hb1 f1 f2 f3 f4 f5 f6 f7 f8
    go_enter Tryz.func66, Tryz.ntmps66
    go_wp2_with (first | (refine wpList_blk_box rfl (.tmp 1) rfl rfl mb hmb.out.symm ?_; rw [← hw1.out]))
    refine wp_region_held_drew (S := fun W => BlkAt W mb 34 (evC x da dn dc na nn nc)) (by kernel_rfl) hst ?_
    intro hHeld
    clear hst
    (refine wpAnyH_take (i := 0) (v := ?_) rfl (by kernel_rfl) (by kernel_rfl) (by kernel_rfl) (fun _ _ _ h => h) (Or.inl ⟨by rfl, ?_⟩) (by assumption) ?_; rotate_left; (focus (intro w hSw; clear hSw; go_simp; (try with_reducible rfl))); (try simp only [Act.put, List.getElem_toArray, List.getElem_cons_zero, List.getElem_cons_succ, List.setIfInBounds_toArray, List.set_cons_zero, List.set_cons_succ]))
    (refine wpAnyH_take (i := 1) (v := ?_) rfl (by kernel_rfl) (by kernel_rfl) (by kernel_rfl) (fun _ _ _ h => h) (Or.inl ⟨by rfl, ?_⟩) (by assumption) ?_; rotate_left; (focus (intro w hSw; clear hSw; go_simp; (try with_reducible rfl))); (try simp only [Act.put, List.getElem_toArray, List.getElem_cons_zero, List.getElem_cons_succ, List.setIfInBounds_toArray, List.set_cons_zero, List.set_cons_succ]))
    (refine wpAnyH_take (i := 2) (v := ?_) rfl (by kernel_rfl) (by kernel_rfl) (by kernel_rfl) (fun _ _ _ h => h) (Or.inl ⟨by rfl, ?_⟩) (by assumption) ?_; rotate_left; (focus (intro w hSw; clear hSw; go_simp; (try with_reducible rfl))); (try simp only [Act.put, List.getElem_toArray, List.getElem_cons_zero, List.getElem_cons_succ, List.setIfInBounds_toArray, List.set_cons_zero, List.set_cons_succ]))
    (refine wpAnyH_take (i := 3) (v := ?_) rfl (by kernel_rfl) (by kernel_rfl) (by kernel_rfl) (fun _ _ _ h => h) (Or.inl ⟨by rfl, ?_⟩) (by assumption) ?_; rotate_left; (focus (intro w hSw; have hc : w.cell? ⟨mb, 13, none⟩ = some (.int .u64 x.num) := BlkAt.cell hSw rfl; clear hSw; go_simp; (try with_reducible rfl))); (try simp only [Act.put, List.getElem_toArray, List.getElem_cons_zero, List.getElem_cons_succ, List.setIfInBounds_toArray, List.set_cons_zero, List.set_cons_succ]))
    (refine wpAnyH_take (i := 5) (v := ?_) rfl (by kernel_rfl) (by kernel_rfl) (by kernel_rfl) (fun _ _ _ h => h) (Or.inl ⟨by rfl, ?_⟩) (by assumption) ?_; rotate_left; (focus (intro w hSw; clear hSw; go_simp; (try with_reducible rfl))); (try simp only [Act.put, List.getElem_toArray, List.getElem_cons_zero, List.getElem_cons_succ, List.setIfInBounds_toArray, List.set_cons_zero, List.set_cons_succ]))
    (refine wpAnyH_take (i := 6) (v := ?_) rfl (by kernel_rfl) (by kernel_rfl) (by kernel_rfl) (fun _ _ _ h => h) (Or.inl ⟨by rfl, ?_⟩) (by assumption) ?_; rotate_left; (focus (intro w hSw; clear hSw; go_simp; (try with_reducible rfl))); (try simp only [Act.put, List.getElem_toArray, List.getElem_cons_zero, List.getElem_cons_succ, List.setIfInBounds_toArray, List.set_cons_zero, List.set_cons_succ]))
    (refine wpAnyH_take (i := 7) (v := .agg #[.int .u64 x.vconf.ep, .int .i64 x.vconf.rp]) rfl (by kernel_rfl) (by kernel_rfl) (by kernel_rfl) (fun _ _ _ h => h) (yieldsIf_load_mid (by rfl) 25 (.tmp 12) rfl mb 14 rfl [.int .u64 x.vconf.ep, .int .i64 x.vconf.rp] _ (fun W hW => ev_vconf hW) Tryz.underlying25 rfl hcL) (by assumption) ?_; (try simp only [Act.put, List.getElem_toArray, List.getElem_cons_zero, List.getElem_cons_succ, List.setIfInBounds_toArray, List.set_cons_zero, List.set_cons_succ]))
    (refine wpAnyH_take (i := 9) (v := ?_) rfl (by kernel_rfl) (by kernel_rfl) (by kernel_rfl) (fun _ _ _ h => h) (Or.inl ⟨by rfl, ?_⟩) (by assumption) ?_; rotate_left; (focus (intro w hSw; clear hSw; go_simp; (try with_reducible rfl))); (try simp only [Act.put, List.getElem_toArray, List.getElem_cons_zero, List.getElem_cons_succ, List.setIfInBounds_toArray, List.set_cons_zero, List.set_cons_succ]))
    (refine wpAnyH_take (i := 10) (v := ?_) rfl (by kernel_rfl) (by kernel_rfl) (by kernel_rfl) (fun _ _ _ h => h) (Or.inl ⟨by rfl, ?_⟩) (by assumption) ?_; rotate_left; (focus (intro w hSw; clear hSw; go_simp; (try with_reducible rfl))); (try simp only [Act.put, List.getElem_toArray, List.getElem_cons_zero, List.getElem_cons_succ, List.setIfInBounds_toArray, List.set_cons_zero, List.set_cons_succ]))
    (refine wpAnyH_take (i := 11) (v := ?_) rfl (by kernel_rfl) (by kernel_rfl) (by kernel_rfl) (fun _ _ _ h => h) (Or.inl ⟨by rfl, ?_⟩) (by assumption) ?_; rotate_left; (focus (intro w hSw; have hc : w.cell? ⟨mb, 16, none⟩ = some (.int .u64 x.vmem) := BlkAt.cell hSw rfl; clear hSw; go_simp; (try with_reducible rfl))); (try simp only [Act.put, List.getElem_toArray, List.getElem_cons_zero, List.getElem_cons_succ, List.setIfInBounds_toArray, List.set_cons_zero, List.set_cons_succ]))
    ((refine wpAnyH_ready (rs := [4]) (by kernel_rfl) (by simp) ?_; refine AllReadyH.cons rfl (fun K hK => ?_) AllReadyH.nil); go_simp; refine (HQ.out _ hB.out).mono ?_; rintro e w3 ⟨rfl, hb⟩; replace hB := Lib.hid (belS hB.out hb); clear hb; refine hK.out _ _ (hS.out _ hB.out) (fun hHeld => ?_); clear hK K)
    (refine wpAnyH_ready (rs := [8]) (by kernel_rfl) (by simp) ?_; refine AllReadyH.cons rfl (fun K hK => ?_) AllReadyH.nil)
    go_simp
    refine (HC.out _ hB.out).mono ?_
    rintro e w4 ⟨rfl, hb4⟩
    exact ⟨rfl, .inr ⟨hvo.out, rfl⟩, kb.out.trans ((KpW.ofBelow hB.out (by omega)).trans (KpW.ofBelow hb4 (by have := hB.out.size; omega)))⟩
  | true =>
    have HC := Lib.hid (fun W (hb : Below w1.heap.size w1 W) => conf_yes x.vconf hf f3 W (hT1.on hb))
    have hvo : Hid (viewOk x = ((decide (x.kind = 7) || decide (x.names.length = 1)) && x.names.all (fun n => prOk n.proc))) := Lib.hid (by unfold viewOk; rw [hf, Bool.true_and])
    have hws := Lib.hid (show fieldW .v x = [Lib.decDigits x.num, confW x.vconf, Lib.decDigits x.vmem] from rfl)
    clear hf hE hT hT1 h hM hb1 f1 f2 f3 f4 f5 f6 f7 f8
    go_enter Tryz.func66, Tryz.ntmps66
    go_upto_region 1 with (first | (refine wpList_blk_box rfl (.tmp 1) rfl rfl mb hmb.out.symm ?_; rw [← hw1.out]))
    simp only [Act.put, List.setIfInBounds_toArray, List.set_cons_zero, List.set_cons_succ]
    go_cut [] from 6 to 20 (fun wx => WrT B wx b (ws ++ fieldW .v x) ∧ KpW B b w1 wx)
    case first => as_aux_lemma =>
      refine wp_region_held_drew (S := fun W => BlkAt W mb 34 (evC x da dn dc na nn nc)) (by kernel_rfl) hst ?_
      intro hHeld
      clear hst
      (refine wpAnyH_take (i := 0) (v := ?_) rfl (by kernel_rfl) (by kernel_rfl) (by kernel_rfl) (fun _ _ _ h => h) (Or.inl ⟨by rfl, ?_⟩) (by assumption) ?_; rotate_left; (focus (intro w hSw; clear hSw; go_simp; (try with_reducible rfl))); (try simp only [Act.put, List.getElem_toArray, List.getElem_cons_zero, List.getElem_cons_succ, List.setIfInBounds_toArray, List.set_cons_zero, List.set_cons_succ]))
      (refine wpAnyH_take (i := 1) (v := ?_) rfl (by kernel_rfl) (by kernel_rfl) (by kernel_rfl) (fun _ _ _ h => h) (Or.inl ⟨by rfl, ?_⟩) (by assumption) ?_; rotate_left; (focus (intro w hSw; clear hSw; go_simp; (try with_reducible rfl))); (try simp only [Act.put, List.getElem_toArray, List.getElem_cons_zero, List.getElem_cons_succ, List.setIfInBounds_toArray, List.set_cons_zero, List.set_cons_succ]))
      (refine wpAnyH_take (i := 2) (v := ?_) rfl (by kernel_rfl) (by kernel_rfl) (by kernel_rfl) (fun _ _ _ h => h) (Or.inl ⟨by rfl, ?_⟩) (by assumption) ?_; rotate_left; (focus (intro w hSw; clear hSw; go_simp; (try with_reducible rfl))); (try simp only [Act.put, List.getElem_toArray, List.getElem_cons_zero, List.getElem_cons_succ, List.setIfInBounds_toArray, List.set_cons_zero, List.set_cons_succ]))
      (refine wpAnyH_take (i := 3) (v := ?_) rfl (by kernel_rfl) (by kernel_rfl) (by kernel_rfl) (fun _ _ _ h => h) (Or.inl ⟨by rfl, ?_⟩) (by assumption) ?_; rotate_left; (focus (intro w hSw; have hc : w.cell? ⟨mb, 13, none⟩ = some (.int .u64 x.num) := BlkAt.cell hSw rfl; clear hSw; go_simp; (try with_reducible rfl))); (try simp only [Act.put, List.getElem_toArray, List.getElem_cons_zero, List.getElem_cons_succ, List.setIfInBounds_toArray, List.set_cons_zero, List.set_cons_succ]))
      (refine wpAnyH_take (i := 5) (v := ?_) rfl (by kernel_rfl) (by kernel_rfl) (by kernel_rfl) (fun _ _ _ h => h) (Or.inl ⟨by rfl, ?_⟩) (by assumption) ?_; rotate_left; (focus (intro w hSw; clear hSw; go_simp; (try with_reducible rfl))); (try simp only [Act.put, List.getElem_toArray, List.getElem_cons_zero, List.getElem_cons_succ, List.setIfInBounds_toArray, List.set_cons_zero, List.set_cons_succ]))
      (refine wpAnyH_take (i := 6) (v := ?_) rfl (by kernel_rfl) (by kernel_rfl) (by kernel_rfl) (fun _ _ _ h => h) (Or.inl ⟨by rfl, ?_⟩) (by assumption) ?_; rotate_left; (focus (intro w hSw; clear hSw; go_simp; (try with_reducible rfl))); (try simp only [Act.put, List.getElem_toArray, List.getElem_cons_zero, List.getElem_cons_succ, List.setIfInBounds_toArray, List.set_cons_zero, List.set_cons_succ]))
      (refine wpAnyH_take (i := 7) (v := .agg #[.int .u64 x.vconf.ep, .int .i64 x.vconf.rp]) rfl (by kernel_rfl) (by kernel_rfl) (by kernel_rfl) (fun _ _ _ h => h) (yieldsIf_load_mid (by rfl) 25 (.tmp 12) rfl mb 14 rfl [.int .u64 x.vconf.ep, .int .i64 x.vconf.rp] _ (fun W hW => ev_vconf hW) Tryz.underlying25 rfl hcL) (by assumption) ?_; (try simp only [Act.put, List.getElem_toArray, List.getElem_cons_zero, List.getElem_cons_succ, List.setIfInBounds_toArray, List.set_cons_zero, List.set_cons_succ]))
      (refine wpAnyH_take (i := 9) (v := ?_) rfl (by kernel_rfl) (by kernel_rfl) (by kernel_rfl) (fun _ _ _ h => h) (Or.inl ⟨by rfl, ?_⟩) (by assumption) ?_; rotate_left; (focus (intro w hSw; clear hSw; go_simp; (try with_reducible rfl))); (try simp only [Act.put, List.getElem_toArray, List.getElem_cons_zero, List.getElem_cons_succ, List.setIfInBounds_toArray, List.set_cons_zero, List.set_cons_succ]))
      (refine wpAnyH_take (i := 10) (v := ?_) rfl (by kernel_rfl) (by kernel_rfl) (by kernel_rfl) (fun _ _ _ h => h) (Or.inl ⟨by rfl, ?_⟩) (by assumption) ?_; rotate_left; (focus (intro w hSw; clear hSw; go_simp; (try with_reducible rfl))); (try simp only [Act.put, List.getElem_toArray, List.getElem_cons_zero, List.getElem_cons_succ, List.setIfInBounds_toArray, List.set_cons_zero, List.set_cons_succ]))
      (refine wpAnyH_take (i := 11) (v := ?_) rfl (by kernel_rfl) (by kernel_rfl) (by kernel_rfl) (fun _ _ _ h => h) (Or.inl ⟨by rfl, ?_⟩) (by assumption) ?_; rotate_left; (focus (intro w hSw; have hc : w.cell? ⟨mb, 16, none⟩ = some (.int .u64 x.vmem) := BlkAt.cell hSw rfl; clear hSw; go_simp; (try with_reducible rfl))); (try simp only [Act.put, List.getElem_toArray, List.getElem_cons_zero, List.getElem_cons_succ, List.setIfInBounds_toArray, List.set_cons_zero, List.set_cons_succ]))
      ((refine wpAnyH_ready (rs := [4]) (by kernel_rfl) (by simp) ?_; refine AllReadyH.cons rfl (fun K hK => ?_) AllReadyH.nil); go_simp; refine (HQ.out _ hB.out).mono ?_; rintro e w3 ⟨rfl, hb⟩; replace hB := Lib.hid (belS hB.out hb); clear hb; refine hK.out _ _ (hS.out _ hB.out) (fun hHeld => ?_); clear hK K)
      ((refine wpAnyH_ready (rs := [8]) (by kernel_rfl) (by simp) ?_; refine AllReadyH.cons rfl (fun K hK => ?_) AllReadyH.nil); go_simp; refine (HC.out _ hB.out).mono ?_; rintro e w4 ⟨rfl, hb⟩; replace hB := Lib.hid (belS hB.out hb); clear hb; refine hK.out _ _ (hS.out _ hB.out) (fun hHeld => ?_); clear hK K)
      ((refine wpAnyH_ready (rs := [12]) (by kernel_rfl) (by simp) ?_; refine AllReadyH.cons rfl (fun K hK => ?_) AllReadyH.nil); go_simp; refine (HV.out _ hB.out).mono ?_; rintro e w5 ⟨rfl, hb⟩; replace hB := Lib.hid (belS hB.out hb); clear hb; refine hK.out _ _ (hS.out _ hB.out) (fun hHeld => ?_); clear hK K)
      (refine wpAnyH_ready (rs := [13]) (by kernel_rfl) (by simp) ?_; refine AllReadyH.cons rfl (fun K hK => ?_) AllReadyH.nil)
      refine step_buildSlice (some 19) rfl rfl 56 9 3 #[(0, .tmp 10), (1, .tmp 14), (2, .tmp 18)] rfl Tryz.stE (by decide) (by decide) ((fieldW .v x).map sv).toArray ?_ ?_
      · rw [hws.out]; kernel_rfl
      have hb9 := (Below.refl w5.heap.size w5).alloc (Nat.le_refl _) (.cells ((fieldW .v x).map sv).toArray 9)
      have hr9 : Rd (w5.alloc (.cells ((fieldW .v x).map sv).toArray 9)) 1 (some ⟨w5.heap.size, 0, none⟩) 3 3 ((fieldW .v x).map sv) := Rd.litn rfl (by rw [hws.out]; rfl) (by decide)
      replace hB := Lib.hid (belS hB.out hb9)
      generalize w5.heap.size = rb at *
      generalize w5.alloc (.cells ((fieldW .v x).map sv).toArray 9) = w9 at *
      refine hK.out _ _ (hS.out _ hB.out) (fun hHeld => ?_)
      clear hK K
      have HS := Lib.hid (say_any (some ⟨rb, 0, none⟩) 3 3 (hW1.out.below hB.out) hr9 (by decide) (by decide) (by omega))
      have hS9 := Lib.hid (hS.out _ hB.out)
      have kb9 := Lib.hid (KpW.ofBelow (B := B) (b := b) hB.out (by omega))
      clear hr9 hb9
      (refine wpAnyH_ready (rs := [14]) (by kernel_rfl) (by simp) ?_; refine AllReadyH.cons rfl (fun K hK => ?_) AllReadyH.nil)
      go_simp
      refine HS.out.mono ?_
      rintro e w10 ⟨rfl, hW10, hk10⟩
      refine hK.out _ _ (hk10.blk hS9.out (by rw [hmb.out]; omega) (by decide)) (fun hHeld => ?_)
      clear hK K
      refine wpAnyH_done (by kernel_rfl) ?_ _
      go_wp2_with fail
      go_meet
      exact ⟨hW10, kb9.out.trans hk10⟩
    case rest => as_aux_lemma =>
      obtain ⟨hW2, hk2⟩ := hcut
      obtain ⟨w2, rfl⟩ : ∃ z, z = wc := ⟨_, rfl⟩
      have hM2 := Lib.hid (hk2.blk hM1.out hmbb (by decide))
      have hE2 := Lib.hid (hE1.out.kpW hEB hk2)
      have hT2 := Lib.hid (hk2.tl hT1'.out hB8)
      have hwl : (ws ++ fieldW .v x).length = ws.length + 3 := by rw [List.length_append, hws.out]; rfl
      replace hW2 := Lib.hid hW2
      obtain ⟨ws2, hws2⟩ : ∃ z, z = ws ++ fieldW .v x := ⟨_, rfl⟩
      rw [← hws2] at hW2 hwl
      replace hws2 := Lib.hid hws2
      have k0 : w2.cell? ⟨mb, 0, none⟩ = some (.int .i64 x.kind) := BlkAt.cell hM2.out rfl
      have k17 : w2.cell? ⟨mb, 17, none⟩ = some (.slice na nn nc) := BlkAt.cell hM2.out rfl
      have hkw2 := Lib.hid (kb.out.trans hk2)
      have hB2 : B ≤ w2.heap.size := by have := hk2.size; omega
      clear hS hB HQ HV HC hst hE1 hT1' hW1 hk2 hM1 kb
      by_cases hbad : ¬ x.kind = 7 ∧ ¬ nn = 1
      · obtain ⟨h7, h1⟩ := hbad
        have hv9 := Lib.hid (show viewOk x = false from by
          rw [hvo.out, decide_eq_false h7, decide_eq_false (by rw [hnl.out]; exact h1)]; rfl)
        have h7b : (x.kind != 7) = true := by simpa using h7
        have h1b : ((nn : Int) != 1) = true := by simp; omega
        go_wp2_with fail
        refine (bad_t (by first | rfl | (simp; done) | (simp; omega)) 1 _).mono ?_
        rintro e w3 ⟨rfl, rfl⟩
        exact ⟨rfl, .inr ⟨hv9.out, rfl⟩, hkw2.out⟩
      · have hv9 := Lib.hid (show viewOk x = x.names.all (fun n => prOk n.proc) from by
          rw [hvo.out]
          by_cases h7 : x.kind = 7
          · rw [decide_eq_true h7]; rfl
          · rw [decide_eq_true (p := x.names.length = 1) (by rw [hnl.out]; omega), Bool.or_true]; rfl)
        go_upto_region 2 with (fail)
        go_cut [] from 21 to 30 (fun wx => wx = w2)
        case first => as_aux_lemma =>
          by_cases h7 : x.kind = 7
          · have h7b : (x.kind != 7) = false := by simpa using h7
            go_wp2_with fail
            refine (bad_f (by first | rfl | (simp; done) | (simp; omega)) 1 _).mono ?_
            rintro e w3 ⟨rfl, rfl⟩
            go_wp2_with fail
            go_meet
            rfl
          · have h7b : (x.kind != 7) = true := by simpa using h7
            have h1b : ((nn : Int) != 1) = false := by simp; omega
            go_wp2_with fail
            refine (bad_f (by first | rfl | (simp; done) | (simp; omega)) 1 _).mono ?_
            rintro e w3 ⟨rfl, rfl⟩
            go_wp2_with fail
            go_meet
            rfl
        case rest => as_aux_lemma =>
          have hcut' := hcut.symm
          subst hcut'
          clear hbad hvo hws k0 hcut
          go_wp2
          go_loopw [5, 34] (fun _ iv wr => ∃ (i : Nat), i ≤ nn ∧ iv = .int .i64 i ∧ Hid ((x.names.take i).all (fun n => prOk n.proc) = true) ∧ Hid (WrT B wr b (ws2 ++ (x.names.take i).map nameW)) ∧ Hid (KpW B b w2 wr)) (fun _ iv _ => nn - (RowKit.intOf iv).toNat)
          case atStart => exact ⟨0, Nat.zero_le _, rfl, Lib.hid rfl, Lib.hid (by rw [List.take_zero, List.map_nil, List.append_nil]; exact hW2.out), Lib.hid (KpW.refl _ _ _)⟩
          case round =>
            clear hW2
            obtain ⟨i, hi, rfl, hall, hW, hk⟩ := hrel
            obtain ⟨w3, rfl⟩ : ∃ z, z = wr := ⟨_, rfl⟩
            by_cases hin : i < nn
            · have hiI : (i : Int) < nn := by omega
              have hil : i < x.names.length := by rw [hnl.out]; exact hin
              have hE3 := hE2.out.kpW hEB hk.out
              obtain ⟨g, off, rfl, _⟩ := hE3.nr.addr (by omega)
              obtain ⟨c0, c1⟩ := own_nm hE3.nr i hil
              have hnn' := hE3.nn
              have hT3 := hk.out.tl hT2.out hB8
              have hn8i := hn8.out _ (List.getElem_mem hil)
              have hts := Lib.hid (show (x.names.take (i + 1)).map nameW = (x.names.take i).map nameW ++ [nameW x.names[i]] from take_map_succ _ _ hil)
              have hta := Lib.hid (show (x.names.take (i + 1)).all (fun n => prOk n.proc) = ((x.names.take i).all (fun n => prOk n.proc) && prOk x.names[i].proc) from by rw [List.take_succ_eq_append_getElem hil, List.all_append]; simp)
              have hbadN := Lib.hid (show prOk x.names[i].proc = false → x.names.all (fun n => prOk n.proc) = false from fun e => by
                rw [Bool.eq_false_iff]; intro h
                have := List.all_eq_true.1 h _ (List.getElem_mem hil)
                rw [e] at this; cases this)
              generalize x.names[i] = n at *
              have hb4 := alloc_below w3 (.cells #[.int .i64 n.proc, .int .u32 n.inc] 96)
              have hN4 : BlkAt (w3.alloc (.cells #[.int .i64 n.proc, .int .u32 n.inc] 96)) w3.heap.size 96 #[.int .i64 n.proc, .int .u32 n.inc] := BlkAt.new w3 96 #[.int .i64 n.proc, .int .u32 n.inc]
              have hk4 := hk.out.trans (KpW.ofBelow hb4 (Nat.le_trans hB2 hk.out.size))
              have hW4 := Lib.hid (hW.out.below hb4)
              have hT4 := Lib.hid (hT3.on hb4)
              have hwlt := hW.out.lt
              have hwl2 : (ws2 ++ (x.names.take i).map nameW).length = ws2.length + i := by rw [List.length_append, List.length_map, List.length_take]; omega
              have hnx := Lib.hid (show (ws2 ++ (x.names.take i).map nameW) ++ [nameW n] = ws2 ++ (x.names.take (i + 1)).map nameW from by rw [hts.out, List.append_assoc])
              have hwu : IntKind.u64.wrap (n.inc : Int) = n.inc := by rw [IntKind.wrap_u64]; omega
              clear hE3 hT3 hts
              generalize ws2 ++ (x.names.take i).map nameW = ws3 at *
              go_upto_region 6 with (fail)
              obtain ⟨w4, hw4⟩ : ∃ z, z = w3.alloc (.cells #[.int .i64 n.proc, .int .u32 n.inc] 96) := ⟨_, rfl⟩
              obtain ⟨nb, hnb⟩ : ∃ z, z = w3.heap.size := ⟨_, rfl⟩
              rw [← hw4, ← hnb] at hN4 ⊢
              rw [← hw4] at hk4 hW4 hT4
              have hnbb : nb ≠ b := by omega
              have hB4 : B ≤ w4.heap.size := Nat.le_trans hB2 hk4.size
              have hS := Lib.hid (fun W (hb : Below w4.heap.size w4 W) => show BlkAt W nb 96 #[.int .i64 n.proc, .int .u32 n.inc] from hN4.below hb hN4.lt)
              have hB : Hid (Below w4.heap.size w4 w4.drew) := Lib.hid (Below.refl _ _).drew
              have hst := hS.out _ hB.out
              have HQ := Lib.hid (fun W (hb : Below w4.heap.size w4 W) => num_any n.inc (by omega) W (hT4.out.on hb))
              replace hk4 := Lib.hid hk4
              have hB3 : B ≤ w3.heap.size := Nat.le_trans hB2 hk.out.size
              clear hW hk hw4 hN4 hb4 c0 c1 hnb
              cases hp : prOk n.proc with
              | false =>
                have HP := Lib.hid (fun W => proc_no n.proc hp W)
                have hv8 := Lib.hid (hv9.out.trans (hbadN.out hp))
                clear hp hta hbadN HQ
                refine wp_region_held_drew (S := fun W => BlkAt W nb 96 #[.int .i64 n.proc, .int .u32 n.inc]) (by kernel_rfl) hst ?_
                intro hHeld
                clear hst
                (refine wpAnyH_take (i := 0) (v := ?_) rfl (by kernel_rfl) (by kernel_rfl) (by kernel_rfl) (fun _ _ _ h => h) (Or.inl ⟨by rfl, ?_⟩) (by assumption) ?_; rotate_left; (focus (intro w hSw; clear hSw; go_simp; (try with_reducible rfl))); (try simp only [Act.put, List.getElem_toArray, List.getElem_cons_zero, List.getElem_cons_succ, List.setIfInBounds_toArray, List.set_cons_zero, List.set_cons_succ]))
                (refine wpAnyH_take (i := 1) (v := ?_) rfl (by kernel_rfl) (by kernel_rfl) (by kernel_rfl) (fun _ _ _ h => h) (Or.inl ⟨by rfl, ?_⟩) (by assumption) ?_; rotate_left; (focus (intro w hSw; clear hSw; go_simp; (try with_reducible rfl))); (try simp only [Act.put, List.getElem_toArray, List.getElem_cons_zero, List.getElem_cons_succ, List.setIfInBounds_toArray, List.set_cons_zero, List.set_cons_succ]))
                (refine wpAnyH_take (i := 2) (v := ?_) rfl (by kernel_rfl) (by kernel_rfl) (by kernel_rfl) (fun _ _ _ h => h) (Or.inl ⟨by rfl, ?_⟩) (by assumption) ?_; rotate_left; (focus (intro w hSw; have hc : w.cell? ⟨nb, 0, none⟩ = some (.int .i64 n.proc) := BlkAt.cell hSw rfl; clear hSw; go_simp; (try with_reducible rfl))); (try simp only [Act.put, List.getElem_toArray, List.getElem_cons_zero, List.getElem_cons_succ, List.setIfInBounds_toArray, List.set_cons_zero, List.set_cons_succ]))
                (refine wpAnyH_take (i := 4) (v := ?_) rfl (by kernel_rfl) (by kernel_rfl) (by kernel_rfl) (fun _ _ _ h => h) (Or.inl ⟨by rfl, ?_⟩) (by assumption) ?_; rotate_left; (focus (intro w hSw; clear hSw; go_simp; (try with_reducible rfl))); (try simp only [Act.put, List.getElem_toArray, List.getElem_cons_zero, List.getElem_cons_succ, List.setIfInBounds_toArray, List.set_cons_zero, List.set_cons_succ]))
                (refine wpAnyH_take (i := 5) (v := ?_) rfl (by kernel_rfl) (by kernel_rfl) (by kernel_rfl) (fun _ _ _ h => h) (Or.inl ⟨by rfl, ?_⟩) (by assumption) ?_; rotate_left; (focus (intro w hSw; have hc : w.cell? ⟨nb, 1, none⟩ = some (.int .u32 n.inc) := BlkAt.cell hSw rfl; clear hSw; go_simp; (try with_reducible rfl))); (try simp only [Act.put, List.getElem_toArray, List.getElem_cons_zero, List.getElem_cons_succ, List.setIfInBounds_toArray, List.set_cons_zero, List.set_cons_succ]))
                (refine wpAnyH_take (i := 6) (v := ?_) rfl (by kernel_rfl) (by kernel_rfl) (by kernel_rfl) (fun _ _ _ h => h) (Or.inl ⟨by rfl, ?_⟩) (by assumption) ?_; rotate_left; (focus (intro w hSw; clear hSw; go_simp; (try with_reducible rfl))); (try simp only [Act.put, List.getElem_toArray, List.getElem_cons_zero, List.getElem_cons_succ, List.setIfInBounds_toArray, List.set_cons_zero, List.set_cons_succ]))
                (refine wpAnyH_ready (rs := [3]) (by kernel_rfl) (by simp) ?_; refine AllReadyH.cons rfl (fun K hK => ?_) AllReadyH.nil)
                go_simp
                refine (HP.out _).mono ?_
                rintro e w5 ⟨rfl, rfl⟩
                exact ⟨rfl, .inr ⟨hv8.out, rfl⟩, hkw2.out.trans (hk4.out.trans (KpW.ofBelow hB.out hB4))⟩
              | true =>
                have HP := Lib.hid (fun W (hb : Below w4.heap.size w4 W) => proc_yes n.proc hp W (hT4.out.on hb))
                have hl1 := prW_len hp
                have hl2 : (Lib.decDigits n.inc).length ≤ 20 := num_len (by omega)
                have HA := Lib.hid (fun W (_ : Below w4.heap.size w4 W) => pureB (pair_any (prW n.proc) (Lib.decDigits n.inc) (by omega) W))
                have hall2 := Lib.hid (show (x.names.take (i + 1)).all (fun n => prOk n.proc) = true from by rw [hta.out, hall.out, hp]; rfl)
                have hnw := Lib.hid (show [sv (prW n.proc ++ 46 :: Lib.decDigits n.inc)] = [nameW n].map sv from rfl)
                clear hp hta hbadN hl1 hl2
                refine wp_region_held_drew (S := fun W => BlkAt W nb 96 #[.int .i64 n.proc, .int .u32 n.inc]) (by kernel_rfl) hst ?_
                intro hHeld
                clear hst
                (refine wpAnyH_take (i := 0) (v := ?_) rfl (by kernel_rfl) (by kernel_rfl) (by kernel_rfl) (fun _ _ _ h => h) (Or.inl ⟨by rfl, ?_⟩) (by assumption) ?_; rotate_left; (focus (intro w hSw; clear hSw; go_simp; (try with_reducible rfl))); (try simp only [Act.put, List.getElem_toArray, List.getElem_cons_zero, List.getElem_cons_succ, List.setIfInBounds_toArray, List.set_cons_zero, List.set_cons_succ]))
                (refine wpAnyH_take (i := 1) (v := ?_) rfl (by kernel_rfl) (by kernel_rfl) (by kernel_rfl) (fun _ _ _ h => h) (Or.inl ⟨by rfl, ?_⟩) (by assumption) ?_; rotate_left; (focus (intro w hSw; clear hSw; go_simp; (try with_reducible rfl))); (try simp only [Act.put, List.getElem_toArray, List.getElem_cons_zero, List.getElem_cons_succ, List.setIfInBounds_toArray, List.set_cons_zero, List.set_cons_succ]))
                (refine wpAnyH_take (i := 2) (v := ?_) rfl (by kernel_rfl) (by kernel_rfl) (by kernel_rfl) (fun _ _ _ h => h) (Or.inl ⟨by rfl, ?_⟩) (by assumption) ?_; rotate_left; (focus (intro w hSw; have hc : w.cell? ⟨nb, 0, none⟩ = some (.int .i64 n.proc) := BlkAt.cell hSw rfl; clear hSw; go_simp; (try with_reducible rfl))); (try simp only [Act.put, List.getElem_toArray, List.getElem_cons_zero, List.getElem_cons_succ, List.setIfInBounds_toArray, List.set_cons_zero, List.set_cons_succ]))
                (refine wpAnyH_take (i := 4) (v := ?_) rfl (by kernel_rfl) (by kernel_rfl) (by kernel_rfl) (fun _ _ _ h => h) (Or.inl ⟨by rfl, ?_⟩) (by assumption) ?_; rotate_left; (focus (intro w hSw; clear hSw; go_simp; (try with_reducible rfl))); (try simp only [Act.put, List.getElem_toArray, List.getElem_cons_zero, List.getElem_cons_succ, List.setIfInBounds_toArray, List.set_cons_zero, List.set_cons_succ]))
                (refine wpAnyH_take (i := 5) (v := ?_) rfl (by kernel_rfl) (by kernel_rfl) (by kernel_rfl) (fun _ _ _ h => h) (Or.inl ⟨by rfl, ?_⟩) (by assumption) ?_; rotate_left; (focus (intro w hSw; have hc : w.cell? ⟨nb, 1, none⟩ = some (.int .u32 n.inc) := BlkAt.cell hSw rfl; clear hSw; go_simp; (try with_reducible rfl))); (try simp only [Act.put, List.getElem_toArray, List.getElem_cons_zero, List.getElem_cons_succ, List.setIfInBounds_toArray, List.set_cons_zero, List.set_cons_succ]))
                (refine wpAnyH_take (i := 6) (v := ?_) rfl (by kernel_rfl) (by kernel_rfl) (by kernel_rfl) (fun _ _ _ h => h) (Or.inl ⟨by rfl, ?_⟩) (by assumption) ?_; rotate_left; (focus (intro w hSw; clear hSw; go_simp; (try with_reducible rfl))); (try simp only [Act.put, List.getElem_toArray, List.getElem_cons_zero, List.getElem_cons_succ, List.setIfInBounds_toArray, List.set_cons_zero, List.set_cons_succ]))
                ((refine wpAnyH_ready (rs := [3]) (by kernel_rfl) (by simp) ?_; refine AllReadyH.cons rfl (fun K hK => ?_) AllReadyH.nil); go_simp; refine (HP.out _ hB.out).mono ?_; rintro e w5 ⟨rfl, hb⟩; replace hB := Lib.hid (belS hB.out hb); clear hb; refine hK.out _ _ (hS.out _ hB.out) (fun hHeld => ?_); clear hK K)
                ((refine wpAnyH_ready (rs := [7]) (by kernel_rfl) (by simp) ?_; refine AllReadyH.cons rfl (fun K hK => ?_) AllReadyH.nil); go_simp; refine (HQ.out _ hB.out).mono ?_; rintro e w6 ⟨rfl, hb⟩; replace hB := Lib.hid (belS hB.out hb); clear hb; refine hK.out _ _ (hS.out _ hB.out) (fun hHeld => ?_); clear hK K)
                ((refine wpAnyH_ready (rs := [8]) (by kernel_rfl) (by simp) ?_; refine AllReadyH.cons rfl (fun K hK => ?_) AllReadyH.nil); go_simp; refine (HA.out _ hB.out).mono ?_; rintro e w7 ⟨rfl, hb⟩; replace hB := Lib.hid (belS hB.out hb); clear hb; refine hK.out _ _ (hS.out _ hB.out) (fun hHeld => ?_); clear hK K)
                (refine wpAnyH_ready (rs := [9]) (by kernel_rfl) (by simp) ?_; refine AllReadyH.cons rfl (fun K hK => ?_) AllReadyH.nil)
                refine step_buildSlice (some 47) rfl rfl 56 9 1 #[(0, .tmp 46)] rfl Tryz.stE (by decide) (by decide) ([nameW n].map sv).toArray ?_ ?_
                · rw [← hnw.out]; kernel_rfl
                have hb9 := (Below.refl w7.heap.size w7).alloc (Nat.le_refl _) (.cells ([nameW n].map sv).toArray 9)
                have hr9 : Rd (w7.alloc (.cells ([nameW n].map sv).toArray 9)) 1 (some ⟨w7.heap.size, 0, none⟩) 1 1 ([nameW n].map sv) := Rd.litn rfl rfl (by decide)
                replace hB := Lib.hid (belS hB.out hb9)
                generalize w7.heap.size = rb at *
                generalize w7.alloc (.cells ([nameW n].map sv).toArray 9) = w9 at *
                refine hK.out _ _ (hS.out _ hB.out) (fun hHeld => ?_)
                clear hK K
                have HS := Lib.hid (say_any (some ⟨rb, 0, none⟩) 1 1 (hW4.out.below hB.out) hr9 (by decide) (by decide) (by omega))
                have hS9 := Lib.hid (hS.out _ hB.out)
                have kb9 := Lib.hid (hk4.out.trans (KpW.ofBelow hB.out hB4))
                clear hr9 hb9 hnw
                (refine wpAnyH_ready (rs := [10]) (by kernel_rfl) (by simp) ?_; refine AllReadyH.cons rfl (fun K hK => ?_) AllReadyH.nil)
                go_simp
                refine HS.out.mono ?_
                rintro e w10 ⟨rfl, hW10, hk10⟩
                refine hK.out _ _ (hk10.blk hS9.out hnbb (by decide)) (fun hHeld => ?_)
                clear hK K
                refine wpAnyH_done (by kernel_rfl) ?_ _
                have hk11 := Lib.hid (kb9.out.trans hk10)
                rw [hnx.out] at hW10
                replace hW10 := Lib.hid hW10
                clear hk10 HS hS9 kb9 hB hHeld hS HA HP HQ
                go_wp2
                go_roundw
                case rel => exact ⟨i + 1, by omega, by go_num, hall2, hW10, hk11⟩
                case measure => simp [RowKit.intOf]; omega
            · have hiI : ¬ (i : Int) < nn := by omega
              obtain rfl : i = nn := by omega
              have ht : x.names.take i = x.names := List.take_of_length_le (by rw [hnl.out]; exact Nat.le_refl _)
              rw [ht] at hall hW
              go_wp2
              go_end0
              exact ⟨.inl ⟨by rw [hv9.out]; exact hall.out, rfl, by rw [← List.append_assoc, ← hws2.out]; exact hW.out⟩, hkw2.out.trans hk.out⟩
end
end Go.Proofs.YtpkknhhohbobaaaGreatDoor
