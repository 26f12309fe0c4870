/- plan: the walk of Keep (written by tools/gen_pj.py) -/
import Derived.Test.YtikhpafdnohhkaaDoorPlanI
namespace Go.Proofs.YtikhpafdnohhkaaDoor
set_option linter.unusedSimpArgs false
set_option linter.unusedVariables false
open Go.RowKit
/-- A jump back: whatever holds from the label on may be used on the first way through, too. -/
theorem scope_pass {P : Program} {c rest : Code} {Q : Exit → Act → World → Prop} {a : Act} {w : World} (l : Nat) (J : Act → World → Prop) (μ : Act → World → Nat) (hf : findLabel c l = some (.seq .skip rest))
    (pass : ∀ a w, J a w → rest.wp P (Exit.jump l (fun a' w' => J a' w' ∧ μ a' w' < μ a w) Q) a w)
    (first : (∀ a w, J a w → rest.wp P (Exit.jump l J Q) a w) → c.wp P (Exit.jump l J Q) a w) : (Code.scope c).wp P Q a w := by
  refine wp_scope_jumps l J μ hf (first fun a w h => Code.wp_mono (fun e a' w' he => ?_) (pass a w h)) (fun a w h => wp_seq (wp_skip (pass a w h)))
  cases e <;> first | exact he | exact ⟨he.1, he.2.1⟩
/-- The sum of what the array's block holds. -/
def natOf : Option Value → Nat | some (.int _ x) => x.toNat | _ => 0
def sumAt (w : World) (b : Nat) : Nat := ((List.range 64).map fun i => natOf (w.cell? ⟨b, i, none⟩)).sum
theorem sum_lt (f g : Nat → Nat) (p : Nat) : ∀ n, p < n → (∀ i, i < n → g i ≤ f i) → g p < f p → ((List.range n).map g).sum < ((List.range n).map f).sum := by
  intro n
  induction n with
  | zero => intro h; omega
  | succ n ih =>
    intro hp hle hlt
    rw [List.range_succ, List.map_append, List.map_append, List.sum_append, List.sum_append]
    simp only [List.map_cons, List.map_nil, List.sum_cons, List.sum_nil, Nat.add_zero]
    by_cases hpn : p = n
    · subst hpn
      have : ((List.range p).map g).sum ≤ ((List.range p).map f).sum := by
        clear ih hp hlt
        have : ∀ m, m ≤ p → ((List.range m).map g).sum ≤ ((List.range m).map f).sum := by
          intro m
          induction m with
          | zero => intro _; exact Nat.le_refl _
          | succ m ihm =>
            intro hm
            rw [List.range_succ, List.map_append, List.map_append, List.sum_append, List.sum_append]
            simp only [List.map_cons, List.map_nil, List.sum_cons, List.sum_nil, Nat.add_zero]
            have := ihm (by omega)
            have := hle m (by omega)
            omega
        exact this p (Nat.le_refl _)
      omega
    · have := ih (by omega) (fun i hi => hle i (by omega)) hlt
      have := hle n (by omega)
      omega
theorem sumAt_K {w : World} {b : Nat} {K : Nat → Nat} (h : KAt w b K) : sumAt w b = ((List.range 64).map K).sum := by
  unfold sumAt
  congr 1
  refine List.map_congr_left (fun i hi => ?_)
  rw [h.cell i (List.mem_range.1 hi)]
  simp [natOf]
theorem sumAt_step {w w' : World} {b p v : Nat} {K : Nat → Nat} (h : KAt w b K) (h' : KAt w' b fun i => if i = p then v else K i) (hp : p < 64) (hv : v < K p) : sumAt w' b < sumAt w b := by
  rw [sumAt_K h, sumAt_K h']
  refine sum_lt _ _ p 64 hp (fun i _ => ?_) ?_
  · split
    · rename_i e; subst e; omega
    · exact Nat.le_refl _
  · rw [if_pos rfl]; exact hv
open Classical in
/-- Kept in the end. -/
noncomputable def keptB (W : Int → Nat) (ms : List Ms) (m : Ms) : Bool := decide (cntM W m = true ∧ ¬ Gv W ms m)
open Classical in
theorem keptB_t {W : Int → Nat} {ms : List Ms} {m : Ms} : keptB W ms m = true ↔ cntM W m = true ∧ ¬ Gv W ms m := by
  unfold keptB
  exact decide_eq_true_iff
theorem wholeV_in {l : List Xv} {p : Int} (h : 0 < wholeV l p) : 0 ≤ p ∧ p < 64 := by
  unfold wholeV at h
  split at h
  · assumption
  · omega
def mX (l : List Mc) : List Ms := l.map (·.m)
theorem kept_iff {W : Int → Nat} {ms : List Ms} {K : Nat → Nat} (hW : ∀ p : Int, 0 < W p → 0 ≤ p ∧ p < 64) (h : KInv W ms K) (hs : ∀ m ∈ ms, cntM W m = true → m.seq ≤ K m.src.toNat → overM K m = false) {m : Ms} (hm : m ∈ ms) : keptB W ms m = true ↔ cntM W m = true ∧ m.seq ≤ K m.src.toNat := by
  rw [keptB_t]
  constructor
  · rintro ⟨h1, h2⟩
    exact ⟨h1, (h.end_ hW hs hm h1).2 h2⟩
  · rintro ⟨h1, h2⟩
    exact ⟨h1, (h.end_ hW hs hm h1).1 h2⟩
theorem filter_snoc {α : Type} (q : α → Bool) (l : List α) {k : Nat} (hk : k < l.length) : (l.take (k + 1)).filter q = if q l[k] = true then (l.take k).filter q ++ [l[k]] else (l.take k).filter q := by
  rw [List.take_succ_eq_append_getElem hk, List.filter_append]
  by_cases h : q l[k] = true
  · rw [if_pos h, List.filter_cons_of_pos h]; rfl
  · rw [if_neg h, List.filter_cons_of_neg h]; simp
/-- What holds at the label. -/
def KJ (w0 : World) (pl : List Xc) (l : List Mc) (b : Nat) (a : Option Addr) (n c : Nat) (kb : Nat) (x : Act) (w : World) : Prop :=
  ∃ K : Nat → Nat, Hid (KInv (wholeV (vX pl)) (mX l) K) ∧ KAt w kb K ∧ Below w0.heap.size w0 w ∧ ∃ u6 u9 u10 u12 u13 u14 u15 u16 u17 u18 u19 u20 u21 u22 u23 u24 u25 u26 u27 u28 u29 u30 u31 u32 u33 u34 u35 u36 u37 u38 u39 u40 u41 u42 u43 u44 u45 u46 u47 u48 u49 u50 u51 u52 u53 u54 u55 u56 u57 u58 u59 u60 u61 u62 u63 u64 u65 u66 u67 u68 u69 u70 u71 u72 u73 u74 u75 u76 : Value, x = { tmps := #[.pointer (some ⟨b, 0, none⟩), .slice a n c, undef, undef, .slice none 0 0, .pointer (some ⟨kb, 0, none⟩), u6, .func (Fn.func 39) #[] #[.pointer (some ⟨kb, 0, none⟩)], undef, u9, u10, undef, u12, u13, u14, u15, u16, u17, u18, u19, u20, u21, u22, u23, u24, u25, u26, u27, u28, u29, u30, u31, u32, u33, u34, u35, u36, u37, u38, u39, u40, u41, u42, u43, u44, u45, u46, u47, u48, u49, u50, u51, u52, u53, u54, u55, u56, u57, u58, u59, u60, u61, u62, u63, u64, u65, u66, u67, u68, u69, u70, u71, u72, u73, u74, u75, u76], defers := [] }
set_option maxHeartbeats 6400000 in
set_option maxRecDepth 100000 in
theorem keep_any (b : Nat) (pl : List Xc) (a : Option Addr) (n c : Nat) (l : List Mc) (w : World) (h : PlAt w b pl) (hr : RdM w a n c l) (hw : ∀ x ∈ vX pl, ∀ y ∈ x.cnt, y < 4294967296) (hn : n ≤ 1000000000) :
    Calls Tryd.prog 26 #[.pointer (some ⟨b, 0, none⟩), .slice a n c] w fun e w' => ∃ a' m c', e = .returned (.slice a' m c') ∧ RdM w' a' m c' (l.filter fun x => keptB (wholeV (vX pl)) (mX l) x.m) ∧ Below w.heap.size w w' := by
  have HW := Lib.hid (fun W (hb : Below w.heap.size w W) q => whole_any b pl q W (h.below hb))
  have HCnt := Lib.hid (fun W (hb : Below w.heap.size w W) (x : Mc) t ht => counts_any b pl x t ht W (h.below hb))
  have HL := Lib.hid (fun q => wholeV_lt hw q)
  have HIN := Lib.hid (fun q => wholeV_in (l := vX pl) (p := q))
  have hmx := hr.le_max
  have hl := Lib.hid hr.len
  have hA := BlkAt.new w 76 (arrU fun _ => 0)
  have hb1 := alloc_below w (.cells (arrU fun _ => 0) 76)
  clear h hw
  go_enter Tryd.func26, Tryd.ntmps26
  go_wp2
  refine scope_pass 0 (KJ w pl l b a n c w.heap.size) (fun _ w' => sumAt w' w.heap.size) rfl ?_ ?_
  · clear hA hb1
    rintro x w1 ⟨K, hI, hK, hb, u6, u9, u10, u12, u13, u14, u15, u16, u17, u18, u19, u20, u21, u22, u23, u24, u25, u26, u27, u28, u29, u30, u31, u32, u33, u34, u35, u36, u37, u38, u39, u40, u41, u42, u43, u44, u45, u46, u47, u48, u49, u50, u51, u52, u53, u54, u55, u56, u57, u58, u59, u60, u61, u62, u63, u64, u65, u66, u67, u68, u69, u70, u71, u72, u73, u74, u75, u76, rfl⟩
    go_wp2
    go_loopw [9, 25] (fun _ i wr => ∃ k : Nat, k ≤ n ∧ i = .int .i64 k ∧ Hid (∀ j (hj : j < l.length), j < k → cntM (wholeV (vX pl)) l[j].m = true → l[j].m.seq ≤ K l[j].m.src.toNat → overM K l[j].m = false) ∧ KAt wr w.heap.size K ∧ Below w.heap.size w wr) (fun _ i _ => n - (intOf i).toNat)
    case atStart => exact ⟨0, Nat.zero_le _, rfl, Lib.hid (fun j hj h => by omega), hK, hb⟩
    case round =>
      clear hb
      have hK0 := Lib.hid hK
      clear hK
      obtain ⟨k, hk, rfl, hst, hKA, hbr⟩ := hrel
      by_cases hkn : k < n
      · have hkl : k < l.length := by rw [hl.out]; exact hkn
        obtain ⟨g, off, rfl, hg, ⟨c0, c1, c2, c3, c4, c5⟩, hin⟩ := (hr.below hbr).at hkl
        have hms : Hid (l[k].m ∈ mX l) := Lib.hid (List.mem_map.2 ⟨l[k], List.getElem_mem hkl, rfl⟩)
        have HST := Lib.hid (fun (h : cntM (wholeV (vX pl)) l[k].m = true → l[k].m.seq ≤ K l[k].m.src.toNat → overM K l[k].m = false) => show ∀ j (hj : j < l.length), j < k + 1 → cntM (wholeV (vX pl)) l[j].m = true → l[j].m.seq ≤ K l[j].m.src.toNat → overM K l[j].m = false from fun j hj hjk => by
          by_cases e : j = k
          · subst e; exact h
          · exact hst.out j hj (by omega))
        generalize l[k] = x at *
        clear hst
        obtain ⟨⟨s, seq, stamp, service, deps, payload⟩, xa, xn, xc⟩ := x
        simp only at c0 c1 c2 c3 c4 c5 hin
        have hkI : (k : Int) < n := by omega
        go_wp2_with (first
          | (refine wpList_blk_alloc rfl rfl Tryd.msZ wr.heap.size rfl ?_)
          | (refine wpList_blk_store (cs := mcA ⟨⟨s, seq, stamp, service, deps, payload⟩, xa, xn, xc⟩) rfl (.tmp 9) (.tmp 28) rfl rfl rfl (BlkAt.new wr _ _) (Tryd.msI _) rfl (mcA_one _) ?_; intro w4 hX hK4 hsz4))
        have hb4 := alloc_store hK4
        have hbr4 := belS hbr hb4
        replace hKA := hKA.below hb4
        replace hin := hin.below hb4
        have hkb4 := hKA.lt
        clear hK4 hsz4 hb4 c0 c1 c2 c3 c4 c5 hbr
        have hxlt := hX.lt
        have hS0 := Below.refl w4.heap.size w4
        have hSD : Hid (Below w4.heap.size w4 w4.drew) := Lib.hid hS0.drew
        have HKA := Lib.hid (fun W (hb : Below w4.heap.size w4 W) => hKA.below hb)
        have HDA := Lib.hid (fun W (hb : Below w4.heap.size w4 W) => hin.below hb)
        have HBR := Lib.hid (fun W (hb : Below w4.heap.size w4 W) => belS hbr4 hb)
        have HXA := Lib.hid (fun W (hb : Below w4.heap.size w4 W) => hX.below hb hxlt)
        have hxi : (Tryd.prog.info? 59).map (·.size) = some ([.int .i64 s, .int .u32 seq, .int .u64 stamp, .int .i64 service, .slice xa xn xc, .string payload] : List Value).length := Tryd.msI ⟨⟨s, seq, stamp, service, deps, payload⟩, xa, xn, xc⟩
        have HR4 := Lib.hid (fun W (hb : Below w4.heap.size w4 W) => show W.cell? ⟨wr.heap.size, 0, none⟩ = some (.int .i64 s) ∧ W.cell? ⟨wr.heap.size, 1, none⟩ = some (.int .u32 seq) ∧ W.rangeAt wr.heap.size 0 [.int .i64 s, .int .u32 seq, .int .u64 stamp, .int .i64 service, .slice xa xn xc, .string payload] from ⟨(HXA.out W hb).cell rfl, (HXA.out W hb).cell rfl, (HXA.out W hb).range (fun j v hj => by rw [Nat.zero_add]; simpa [mcA] using hj)⟩)
        clear hX hin hKA
        cases hcb : cntM (wholeV (vX pl)) ⟨s, seq, stamp, service, deps, payload⟩ with
        | false =>
          have HC1 := Lib.hid (fun W (hb : Below w4.heap.size w4 W) => (show Calls Tryd.prog 40 #[.pointer (some ⟨b, 0, none⟩), .agg #[.int .i64 s, .int .u32 seq, .int .u64 stamp, .int .i64 service, .slice xa xn xc, .string payload]] W fun e w' => e = .returned (.bool false) ∧ Below W.heap.size W w' from HCnt.out W (belS hbr4 hb) ⟨⟨s, seq, stamp, service, deps, payload⟩, xa, xn, xc⟩ false hcb.symm))
          have HZ := Lib.hid (HST.out (fun h => by rw [hcb] at h; cases h))
          have HS := Lib.hid (fun W (hb : Below w4.heap.size w4 W) => show W.cell? ⟨wr.heap.size, 0, none⟩ = some (.int .i64 s) ∧ W.cell? ⟨wr.heap.size, 1, none⟩ = some (.int .u32 seq) ∧ True ∧ W.rangeAt wr.heap.size 0 [.int .i64 s, .int .u32 seq, .int .u64 stamp, .int .i64 service, .slice xa xn xc, .string payload] from ⟨(HR4.out W hb).1, (HR4.out W hb).2.1, trivial, (HR4.out W hb).2.2⟩)
          clear HST hcb hms
          refine wp_region_held_drew (S := fun W => W.cell? ⟨wr.heap.size, 0, none⟩ = some (.int .i64 s) ∧ W.cell? ⟨wr.heap.size, 1, none⟩ = some (.int .u32 seq) ∧ True ∧ W.rangeAt wr.heap.size 0 [.int .i64 s, .int .u32 seq, .int .u64 stamp, .int .i64 service, .slice xa xn xc, .string payload]) (by kernel_rfl) (HS.out _ hSD.out) ?_
          intro hHeld
          (refine wpAnyH_take (i := 0) (v := ?_) rfl (by kernel_rfl) (by kernel_rfl) (by kernel_rfl) (fun _ _ _ h => h) (Or.inl ⟨by rfl, ?_⟩) (by assumption) ?_; rotate_left; (focus (intro w hSw; obtain ⟨s1, s2, s3, s4⟩ := hSw; clear s4; go_simp; (try with_reducible rfl))); (try simp only [Act.put, List.getElem_toArray, List.getElem_cons_zero, List.getElem_cons_succ, List.setIfInBounds_toArray, List.set_cons_zero, List.set_cons_succ]))
          (refine wpAnyH_take (i := 1) (v := .agg #[.int .i64 s, .int .u32 seq, .int .u64 stamp, .int .i64 service, .slice xa xn xc, .string payload]) rfl (by kernel_rfl) (by kernel_rfl) (by kernel_rfl) (fun _ _ _ h => h) ?_ (by assumption) ?_; (focus (exact yieldsIf_load_mid (by rfl) 59 (.tmp 9) rfl wr.heap.size 0 rfl [.int .i64 s, .int .u32 seq, .int .u64 stamp, .int .i64 service, .slice xa xn xc, .string payload] _ (fun W hW => hW.2.2.2) Tryd.underlying59 rfl hxi)); (try simp only [Act.put, List.getElem_toArray, List.getElem_cons_zero, List.getElem_cons_succ, List.setIfInBounds_toArray, List.set_cons_zero, List.set_cons_succ]))
          (refine wpAnyH_ready (rs := [2]) (by kernel_rfl) (by simp) ?_; refine AllReadyH.cons rfl (fun K hK => ?_) AllReadyH.nil)
          go_simp
          refine (HC1.out _ hSD.out).mono ?_
          rintro e w5 ⟨rfl, hb5⟩
          have hb6 := Lib.hid (belS hSD.out hb5)
          refine hK.out _ _ (HS.out _ hb6.out) (fun hHeld2 => ?_)
          clear hK K hHeld hb5
          (refine wpAnyH_take (i := 3) (v := ?_) rfl (by kernel_rfl) (by kernel_rfl) (by kernel_rfl) (fun _ _ _ h => h) (Or.inl ⟨by rfl, ?_⟩) (by assumption) ?_; rotate_left; (focus (intro w hSw; obtain ⟨s1, s2, s3, s4⟩ := hSw; clear s4; go_simp; (try with_reducible rfl))); (try simp only [Act.put, List.getElem_toArray, List.getElem_cons_zero, List.getElem_cons_succ, List.setIfInBounds_toArray, List.set_cons_zero, List.set_cons_succ]))
          (refine wpAnyH_take (i := 4) (v := ?_) rfl (by kernel_rfl) (by kernel_rfl) (by kernel_rfl) (fun _ _ _ h => h) (Or.inl ⟨by rfl, ?_⟩) (by assumption) ?_; rotate_left; (focus (intro w hSw; obtain ⟨s1, s2, s3, s4⟩ := hSw; clear s4; go_simp; (try with_reducible rfl))); (try simp only [Act.put, List.getElem_toArray, List.getElem_cons_zero, List.getElem_cons_succ, List.setIfInBounds_toArray, List.set_cons_zero, List.set_cons_succ]))
          (refine wpAnyH_take (i := 5) (v := undef) rfl (by kernel_rfl) (by kernel_rfl) (by kernel_rfl) (fun _ _ _ h => h) (Or.inr ⟨by rfl, rfl⟩) (by assumption) ?_; (try simp only [Act.put, List.getElem_toArray, List.getElem_cons_zero, List.getElem_cons_succ, List.setIfInBounds_toArray, List.set_cons_zero, List.set_cons_succ]))
          (refine wpAnyH_take (i := 6) (v := undef) rfl (by kernel_rfl) (by kernel_rfl) (by kernel_rfl) (fun _ _ _ h => h) (Or.inr ⟨by rfl, rfl⟩) (by assumption) ?_; (try simp only [Act.put, List.getElem_toArray, List.getElem_cons_zero, List.getElem_cons_succ, List.setIfInBounds_toArray, List.set_cons_zero, List.set_cons_succ]))
          (refine wpAnyH_take (i := 7) (v := undef) rfl (by kernel_rfl) (by kernel_rfl) (by kernel_rfl) (fun _ _ _ h => h) (Or.inr ⟨by rfl, rfl⟩) (by assumption) ?_; (try simp only [Act.put, List.getElem_toArray, List.getElem_cons_zero, List.getElem_cons_succ, List.setIfInBounds_toArray, List.set_cons_zero, List.set_cons_succ]))
          (refine wpAnyH_take (i := 8) (v := undef) rfl (by kernel_rfl) (by kernel_rfl) (by kernel_rfl) (fun _ _ _ h => h) (Or.inr ⟨by rfl, rfl⟩) (by assumption) ?_; (try simp only [Act.put, List.getElem_toArray, List.getElem_cons_zero, List.getElem_cons_succ, List.setIfInBounds_toArray, List.set_cons_zero, List.set_cons_succ]))
          (refine wpAnyH_take (i := 9) (v := undef) rfl (by kernel_rfl) (by kernel_rfl) (by kernel_rfl) (fun _ _ _ h => h) (Or.inr ⟨by rfl, rfl⟩) (by assumption) ?_; (try simp only [Act.put, List.getElem_toArray, List.getElem_cons_zero, List.getElem_cons_succ, List.setIfInBounds_toArray, List.set_cons_zero, List.set_cons_succ]))
          (refine wpAnyH_take (i := 10) (v := undef) rfl (by kernel_rfl) (by kernel_rfl) (by kernel_rfl) (fun _ _ _ h => h) (Or.inr ⟨by rfl, rfl⟩) (by assumption) ?_; (try simp only [Act.put, List.getElem_toArray, List.getElem_cons_zero, List.getElem_cons_succ, List.setIfInBounds_toArray, List.set_cons_zero, List.set_cons_succ]))
          (refine wpAnyH_take (i := 11) (v := undef) rfl (by kernel_rfl) (by kernel_rfl) (by kernel_rfl) (fun _ _ _ h => h) (Or.inr ⟨by rfl, rfl⟩) (by assumption) ?_; (try simp only [Act.put, List.getElem_toArray, List.getElem_cons_zero, List.getElem_cons_succ, List.setIfInBounds_toArray, List.set_cons_zero, List.set_cons_succ]))
          (refine wpAnyH_take (i := 12) (v := ?_) rfl (by kernel_rfl) (by kernel_rfl) (by kernel_rfl) (fun _ _ _ h => h) (Or.inl ⟨by rfl, ?_⟩) (by assumption) ?_; rotate_left; (focus (intro w hSw; obtain ⟨s1, s2, s3, s4⟩ := hSw; clear s4; go_simp; (try with_reducible rfl))); (try simp only [Act.put, List.getElem_toArray, List.getElem_cons_zero, List.getElem_cons_succ, List.setIfInBounds_toArray, List.set_cons_zero, List.set_cons_succ]))
          refine wpAnyH_done (by kernel_rfl) ?_ _
          go_wp2
          go_roundw
          case rel => exact ⟨k + 1, by omega, by go_num, HZ, HKA.out _ hb6.out, HBR.out _ hb6.out⟩
          case measure => simp [intOf]; omega
        | true =>
          have hcm : 0 < seq ∧ seq ≤ wholeV (vX pl) s := by have := hcb; unfold cntM at this; simpa using this
          have hin64 := HIN.out s (by omega)
          have hseq : seq < 4294967296 := Nat.lt_of_le_of_lt hcm.2 (HL.out s)
          obtain ⟨q, rfl⟩ : ∃ q, seq = q + 1 := ⟨seq - 1, by omega⟩
          obtain ⟨p, rfl⟩ : ∃ p : Nat, s = p := ⟨s.toNat, by omega⟩
          have hp64 : p < 64 := by omega
          have HC1 := Lib.hid (fun W (hb : Below w4.heap.size w4 W) => (show Calls Tryd.prog 40 #[.pointer (some ⟨b, 0, none⟩), .agg #[.int .i64 (p : Int), .int .u32 (q + 1 : Nat), .int .u64 stamp, .int .i64 service, .slice xa xn xc, .string payload]] W fun e w' => e = .returned (.bool true) ∧ Below W.heap.size W w' from HCnt.out W (belS hbr4 hb) ⟨⟨(p : Int), q + 1, stamp, service, deps, payload⟩, xa, xn, xc⟩ true hcb.symm))
          have HS := Lib.hid (fun W (hb : Below w4.heap.size w4 W) => show W.cell? ⟨wr.heap.size, 0, none⟩ = some (.int .i64 (p : Int)) ∧ W.cell? ⟨wr.heap.size, 1, none⟩ = some (.int .u32 (q + 1 : Nat)) ∧ W.cell? ⟨w.heap.size, p, none⟩ = some (.int .u32 (K p : Nat)) ∧ W.rangeAt wr.heap.size 0 [.int .i64 (p : Int), .int .u32 (q + 1 : Nat), .int .u64 stamp, .int .i64 service, .slice xa xn xc, .string payload] from ⟨(HR4.out W hb).1, (HR4.out W hb).2.1, (HKA.out W hb).cell p hp64, (HR4.out W hb).2.2⟩)
          have hpI : (p : Int) < 64 := by omega
          have hK9 := Lib.hid (fun (hk : q + 1 ≤ K p) (ho : overM K ⟨(p : Int), q + 1, stamp, service, deps, payload⟩ = true) => hI.out.step (p := p) rfl hms.out hcb hk ho)
          have HZ := Lib.hid (fun (hz : q + 1 ≤ K p → overM K ⟨(p : Int), q + 1, stamp, service, deps, payload⟩ = false) => HST.out (fun _ h2 => hz (by simpa using h2)))
          clear HST hcb hms hcm hin64
          have hkp := Lib.hid (show K p = K p from rfl)
          generalize hkv : K p = kv at *
          replace hkv := Lib.hid hkv
          clear hkp
          refine wp_region_held_drew (S := fun W => W.cell? ⟨wr.heap.size, 0, none⟩ = some (.int .i64 (p : Int)) ∧ W.cell? ⟨wr.heap.size, 1, none⟩ = some (.int .u32 (q + 1 : Nat)) ∧ W.cell? ⟨w.heap.size, p, none⟩ = some (.int .u32 kv) ∧ W.rangeAt wr.heap.size 0 [.int .i64 (p : Int), .int .u32 (q + 1 : Nat), .int .u64 stamp, .int .i64 service, .slice xa xn xc, .string payload]) (by kernel_rfl) (HS.out _ hSD.out) ?_
          intro hHeld
          (refine wpAnyH_take (i := 0) (v := ?_) rfl (by kernel_rfl) (by kernel_rfl) (by kernel_rfl) (fun _ _ _ h => h) (Or.inl ⟨by rfl, ?_⟩) (by assumption) ?_; rotate_left; (focus (intro w hSw; obtain ⟨s1, s2, s3, s4⟩ := hSw; clear s4; go_simp; (try with_reducible rfl))); (try simp only [Act.put, List.getElem_toArray, List.getElem_cons_zero, List.getElem_cons_succ, List.setIfInBounds_toArray, List.set_cons_zero, List.set_cons_succ]))
          (refine wpAnyH_take (i := 1) (v := .agg #[.int .i64 (p : Int), .int .u32 (q + 1 : Nat), .int .u64 stamp, .int .i64 service, .slice xa xn xc, .string payload]) rfl (by kernel_rfl) (by kernel_rfl) (by kernel_rfl) (fun _ _ _ h => h) ?_ (by assumption) ?_; (focus (exact yieldsIf_load_mid (by rfl) 59 (.tmp 9) rfl wr.heap.size 0 rfl [.int .i64 (p : Int), .int .u32 (q + 1 : Nat), .int .u64 stamp, .int .i64 service, .slice xa xn xc, .string payload] _ (fun W hW => hW.2.2.2) Tryd.underlying59 rfl hxi)); (try simp only [Act.put, List.getElem_toArray, List.getElem_cons_zero, List.getElem_cons_succ, List.setIfInBounds_toArray, List.set_cons_zero, List.set_cons_succ]))
          (refine wpAnyH_ready (rs := [2]) (by kernel_rfl) (by simp) ?_; refine AllReadyH.cons rfl (fun K hK => ?_) AllReadyH.nil)
          go_simp
          refine (HC1.out _ hSD.out).mono ?_
          rintro e w5 ⟨rfl, hb5⟩
          have hb6 := Lib.hid (belS hSD.out hb5)
          refine hK.out _ _ (HS.out _ hb6.out) (fun hHeld2 => ?_)
          clear hK K hHeld hb5
          (refine wpAnyH_take (i := 3) (v := ?_) rfl (by kernel_rfl) (by kernel_rfl) (by kernel_rfl) (fun _ _ _ h => h) (Or.inl ⟨by rfl, ?_⟩) (by assumption) ?_; rotate_left; (focus (intro w hSw; obtain ⟨s1, s2, s3, s4⟩ := hSw; clear s4; go_simp; (try with_reducible rfl))); (try simp only [Act.put, List.getElem_toArray, List.getElem_cons_zero, List.getElem_cons_succ, List.setIfInBounds_toArray, List.set_cons_zero, List.set_cons_succ]))
          (refine wpAnyH_take (i := 4) (v := ?_) rfl (by kernel_rfl) (by kernel_rfl) (by kernel_rfl) (fun _ _ _ h => h) (Or.inl ⟨by rfl, ?_⟩) (by assumption) ?_; rotate_left; (focus (intro w hSw; obtain ⟨s1, s2, s3, s4⟩ := hSw; clear s4; go_simp; (try with_reducible rfl))); (try simp only [Act.put, List.getElem_toArray, List.getElem_cons_zero, List.getElem_cons_succ, List.setIfInBounds_toArray, List.set_cons_zero, List.set_cons_succ]))
          (refine wpAnyH_take (i := 5) (v := ?_) rfl (by kernel_rfl) (by kernel_rfl) (by kernel_rfl) (fun _ _ _ h => h) (Or.inl ⟨by rfl, ?_⟩) (by assumption) ?_; rotate_left; (focus (intro w hSw; obtain ⟨s1, s2, s3, s4⟩ := hSw; clear s4; go_simp; (try with_reducible rfl))); (try simp only [Act.put, List.getElem_toArray, List.getElem_cons_zero, List.getElem_cons_succ, List.setIfInBounds_toArray, List.set_cons_zero, List.set_cons_succ]))
          (refine wpAnyH_take (i := 6) (v := ?_) rfl (by kernel_rfl) (by kernel_rfl) (by kernel_rfl) (fun _ _ _ h => h) (Or.inl ⟨by rfl, ?_⟩) (by assumption) ?_; rotate_left; (focus (intro w hSw; obtain ⟨s1, s2, s3, s4⟩ := hSw; clear s4; go_simp; (try with_reducible rfl))); (try simp only [Act.put, List.getElem_toArray, List.getElem_cons_zero, List.getElem_cons_succ, List.setIfInBounds_toArray, List.set_cons_zero, List.set_cons_succ]))
          (refine wpAnyH_take (i := 7) (v := ?_) rfl (by kernel_rfl) (by kernel_rfl) (by kernel_rfl) (fun _ _ _ h => h) (Or.inl ⟨by rfl, ?_⟩) (by assumption) ?_; rotate_left; (focus (intro w hSw; obtain ⟨s1, s2, s3, s4⟩ := hSw; clear s4; go_simp; (try with_reducible rfl))); (try simp only [Act.put, List.getElem_toArray, List.getElem_cons_zero, List.getElem_cons_succ, List.setIfInBounds_toArray, List.set_cons_zero, List.set_cons_succ]))
          (refine wpAnyH_take (i := 8) (v := ?_) rfl (by kernel_rfl) (by kernel_rfl) (by kernel_rfl) (fun _ _ _ h => h) (Or.inl ⟨by rfl, ?_⟩) (by assumption) ?_; rotate_left; (focus (intro w hSw; obtain ⟨s1, s2, s3, s4⟩ := hSw; clear s4; go_simp; (try with_reducible rfl))); (try simp only [Act.put, List.getElem_toArray, List.getElem_cons_zero, List.getElem_cons_succ, List.setIfInBounds_toArray, List.set_cons_zero, List.set_cons_succ]))
          (refine wpAnyH_take (i := 9) (v := ?_) rfl (by kernel_rfl) (by kernel_rfl) (by kernel_rfl) (fun _ _ _ h => h) (Or.inl ⟨by rfl, ?_⟩) (by assumption) ?_; rotate_left; (focus (intro w hSw; obtain ⟨s1, s2, s3, s4⟩ := hSw; clear s4; go_simp; (try with_reducible rfl))); (try simp only [Act.put, List.getElem_toArray, List.getElem_cons_zero, List.getElem_cons_succ, List.setIfInBounds_toArray, List.set_cons_zero, List.set_cons_succ]))
          (refine wpAnyH_take (i := 10) (v := ?_) rfl (by kernel_rfl) (by kernel_rfl) (by kernel_rfl) (fun _ _ _ h => h) (Or.inl ⟨by rfl, ?_⟩) (by assumption) ?_; rotate_left; (focus (intro w hSw; obtain ⟨s1, s2, s3, s4⟩ := hSw; clear s4; go_simp; (try with_reducible rfl))); (try simp only [Act.put, List.getElem_toArray, List.getElem_cons_zero, List.getElem_cons_succ, List.setIfInBounds_toArray, List.set_cons_zero, List.set_cons_succ]))
          (refine wpAnyH_take (i := 11) (v := ?_) rfl (by kernel_rfl) (by kernel_rfl) (by kernel_rfl) (fun _ _ _ h => h) (Or.inl ⟨by rfl, ?_⟩) (by assumption) ?_; rotate_left; (focus (intro w hSw; obtain ⟨s1, s2, s3, s4⟩ := hSw; clear s4; go_simp; (try with_reducible rfl))); (try simp only [Act.put, List.getElem_toArray, List.getElem_cons_zero, List.getElem_cons_succ, List.setIfInBounds_toArray, List.set_cons_zero, List.set_cons_succ]))
          (refine wpAnyH_take (i := 12) (v := ?_) rfl (by kernel_rfl) (by kernel_rfl) (by kernel_rfl) (fun _ _ _ h => h) (Or.inl ⟨by rfl, ?_⟩) (by assumption) ?_; rotate_left; (focus (intro w hSw; obtain ⟨s1, s2, s3, s4⟩ := hSw; clear s4; go_simp; (try with_reducible rfl))); (try simp only [Act.put, List.getElem_toArray, List.getElem_cons_zero, List.getElem_cons_succ, List.setIfInBounds_toArray, List.set_cons_zero, List.set_cons_succ]))
          refine wpAnyH_done (by kernel_rfl) ?_ _
          clear HC1 HS hHeld2
          by_cases hqk : q + 1 ≤ kv
          · have hqkI : (q : Int) + 1 ≤ kv := by omega
            have HXB := Lib.hid (HXA.out _ hb6.out)
            obtain ⟨x0, x1, x2, x3, x4, x5⟩ := blk6 HXB.out
            cases hov : overM K ⟨(p : Int), q + 1, stamp, service, deps, payload⟩ with
            | false =>
              have HF := Lib.hid (fits_any ⟨⟨(p : Int), q + 1, stamp, service, deps, payload⟩, xa, xn, xc⟩ w.heap.size K true (by rw [hov]; rfl) w5 (HKA.out _ hb6.out) (HDA.out _ hb6.out))
              have HZ2 := Lib.hid (HZ.out (fun _ => hov))
              clear hov HZ hK9
              go_wp2_with fail
              refine HF.out.mono ?_
              rintro e w6 ⟨rfl, hb7⟩
              have hb8 := Lib.hid (belS hb6.out hb7)
              clear x0 x1 x2 x3 x4 x5 HF
              go_wp2
              go_roundw
              case rel => exact ⟨k + 1, by omega, by go_num, HZ2, HKA.out _ hb8.out, HBR.out _ hb8.out⟩
              case measure => simp [intOf]; omega
            | true =>
              have HF := Lib.hid (fits_any ⟨⟨(p : Int), q + 1, stamp, service, deps, payload⟩, xa, xn, xc⟩ w.heap.size K false (by rw [hov]; rfl) w5 (HKA.out _ hb6.out) (HDA.out _ hb6.out))
              have HKN := Lib.hid (hK9.out hqk hov)
              clear hov HZ hK9
              go_wp2_with fail
              refine HF.out.mono ?_
              rintro e w6 ⟨rfl, hb7⟩
              have hb8 := Lib.hid (belS hb6.out hb7)
              clear x0 x1 x2 x3 x4 x5 HF HXB
              have HXB := Lib.hid (HXA.out _ hb8.out)
              obtain ⟨x0, x1, x2, x3, x4, x5⟩ := blk6 HXB.out
              have hKK := HKA.out _ hb8.out
              have kc := hKK.cell p hp64
              have kf := hKK.fz p
              rw [hkv.out] at kc
              have hK7 := Lib.hid (hKK.set p q hp64)
              have hb9 := Lib.hid (Kp.below (HBR.out _ hb8.out) (Kp.setCell (Kp.refl w.heap.size w6) ⟨w.heap.size, p, none⟩ rfl (.int .u32 (q : Nat))) (Nat.le_refl _) (HBR.out _ hb8.out).size)
              have hq0 : (q : Int) < 4294967296 := by omega
              have hms := Lib.hid (sumAt_step hK0.out hK7.out hp64 (by rw [hkv.out]; omega))
              clear hKK
              go_wp2
              go_step3
              (repeat go_step)
              refine ⟨rfl, ⟨_, HKN, hK7.out, hb9.out, ?_⟩, hms.out⟩
              (repeat apply Exists.intro)
              rfl
          · have hqkI : (kv : Int) < q + 1 := by omega
            have HZ2 := Lib.hid (HZ.out (fun h => absurd h hqk))
            clear HZ hK9
            go_wp2
            go_roundw
            case rel => exact ⟨k + 1, by omega, by go_num, HZ2, HKA.out _ hb6.out, HBR.out _ hb6.out⟩
            case measure => simp [intOf]; omega
      · have hkn' : Hid (k = n) := Lib.hid (by omega)
        have HKP := Lib.hid (fun (x : Mc) (hx : x ∈ l) => kept_iff HIN.out hI.out (fun m hm => by
          obtain ⟨y, hy, rfl⟩ := List.mem_map.1 hm
          obtain ⟨j, hj, rfl⟩ := List.mem_iff_getElem.1 hy
          exact hst.out j hj (by rw [hkn'.out, ← hl.out]; exact hj)) (List.mem_map.2 ⟨x, hx, rfl⟩ : x.m ∈ mX l))
        have hkI : (n : Int) ≤ k := by omega
        clear hst hK0
        have hF0 : ((l.take 0).filter fun x => keptB (wholeV (vX pl)) (mX l) x.m) = [] := rfl
        go_wp2
        go_loopw [10, 12, 55] (fun o _ i wr => ∃ (k : Nat) (F : List Mc), k ≤ n ∧ i = .int .i64 k ∧ Hid (F = (l.take k).filter fun x => keptB (wholeV (vX pl)) (mX l) x.m) ∧ wr.ownsRow (w.heap.size + 1) 59 6 o F.length (F.flatMap mcC) ∧ KAt wr w.heap.size K ∧ Below w.heap.size w wr) (fun _ _ i _ => n - (intOf i).toNat)
        case atStart => exact ⟨0, [], Nat.zero_le _, rfl, rfl, World.ownsRow_nil _ _ _ _, hKA, hbr⟩
        case round =>
          clear hKA hbr hF0
          obtain ⟨k3, F, hk3, rfl, hF, hown, hKA, hbr⟩ := hrel
          have hFl : F.length ≤ k3 := by
            rw [hF.out]
            exact Nat.le_trans (List.length_filter_le _ _) (by rw [List.length_take]; omega)
          by_cases hkn : k3 < n
          · have hkl : k3 < l.length := by rw [hl.out]; exact hkn
            obtain ⟨g, off, rfl, hg, ⟨c0, c1, c2, c3, c4, c5⟩, hin⟩ := (hr.below hbr).at hkl
            have HFS := Lib.hid (filter_snoc (fun x => keptB (wholeV (vX pl)) (mX l) x.m) l hkl)
            have HKQ := Lib.hid (HKP.out l[k3] (List.getElem_mem hkl))
            have hino := Lib.hid (hr.inn l[k3] (List.getElem_mem hkl))
            rw [← hF.out] at HFS
            generalize l[k3] = x at *
            obtain ⟨⟨s, seq, stamp, service, deps, payload⟩, xa, xn, xc⟩ := x
            simp only at c0 c1 c2 c3 c4 c5 hin
            have hkI : (k3 : Int) < n := by omega
            go_wp2_with (first
              | (refine wpList_blk_alloc rfl rfl Tryd.msZ wr.heap.size rfl ?_)
              | (refine wpList_blk_store (cs := mcA ⟨⟨s, seq, stamp, service, deps, payload⟩, xa, xn, xc⟩) rfl (.tmp 12) (.tmp 58) rfl rfl rfl (BlkAt.new wr _ _) (Tryd.msI _) rfl (mcA_one _) ?_; intro w4 hX hK4 hsz4))
            have hb4 := alloc_store hK4
            have hbr4 := belS hbr hb4
            replace hKA := hKA.below hb4
            have hown4 := own_belowB hown hb4
            have hkb4 := hKA.lt
            clear hK4 hsz4 hb4 c0 c1 c2 c3 c4 c5 hin hg hF
            have hxlt := hX.lt
            have hS0 := Below.refl w4.heap.size w4
            have hSD : Hid (Below w4.heap.size w4 w4.drew) := Lib.hid hS0.drew
            have HKA := Lib.hid (fun W (hb : Below w4.heap.size w4 W) => hKA.below hb)
            have HBR := Lib.hid (fun W (hb : Below w4.heap.size w4 W) => belS hbr4 hb)
            have HOW := Lib.hid (fun W (hb : Below w4.heap.size w4 W) => own_belowB hown4 hb)
            have HXA := Lib.hid (fun W (hb : Below w4.heap.size w4 W) => hX.below hb hxlt)
            have hxi : (Tryd.prog.info? 59).map (·.size) = some ([.int .i64 s, .int .u32 seq, .int .u64 stamp, .int .i64 service, .slice xa xn xc, .string payload] : List Value).length := Tryd.msI ⟨⟨s, seq, stamp, service, deps, payload⟩, xa, xn, xc⟩
            have HR4 := Lib.hid (fun W (hb : Below w4.heap.size w4 W) => show W.cell? ⟨wr.heap.size, 0, none⟩ = some (.int .i64 s) ∧ W.cell? ⟨wr.heap.size, 1, none⟩ = some (.int .u32 seq) ∧ W.rangeAt wr.heap.size 0 [.int .i64 s, .int .u32 seq, .int .u64 stamp, .int .i64 service, .slice xa xn xc, .string payload] from ⟨(HXA.out W hb).cell rfl, (HXA.out W hb).cell rfl, (HXA.out W hb).range (fun j v hj => by rw [Nat.zero_add]; simpa [mcA] using hj)⟩)
            clear hX hKA hown hown4
            cases hcb : cntM (wholeV (vX pl)) ⟨s, seq, stamp, service, deps, payload⟩ with
            | false =>
              have HC1 := Lib.hid (fun W (hb : Below w4.heap.size w4 W) => (show Calls Tryd.prog 40 #[.pointer (some ⟨b, 0, none⟩), .agg #[.int .i64 s, .int .u32 seq, .int .u64 stamp, .int .i64 service, .slice xa xn xc, .string payload]] W fun e w' => e = .returned (.bool false) ∧ Below W.heap.size W w' from HCnt.out W (belS hbr4 hb) ⟨⟨s, seq, stamp, service, deps, payload⟩, xa, xn, xc⟩ false hcb.symm))
              have HZ := Lib.hid (HFS.out.trans (if_neg (fun h => by have := (HKQ.out.1 h).1; rw [hcb] at this; cases this)))
              have HS := Lib.hid (fun W (hb : Below w4.heap.size w4 W) => show W.cell? ⟨wr.heap.size, 0, none⟩ = some (.int .i64 s) ∧ W.cell? ⟨wr.heap.size, 1, none⟩ = some (.int .u32 seq) ∧ True ∧ W.rangeAt wr.heap.size 0 [.int .i64 s, .int .u32 seq, .int .u64 stamp, .int .i64 service, .slice xa xn xc, .string payload] from ⟨(HR4.out W hb).1, (HR4.out W hb).2.1, trivial, (HR4.out W hb).2.2⟩)
              clear HFS HKQ hcb
              refine wp_region_held_drew (S := fun W => W.cell? ⟨wr.heap.size, 0, none⟩ = some (.int .i64 s) ∧ W.cell? ⟨wr.heap.size, 1, none⟩ = some (.int .u32 seq) ∧ True ∧ W.rangeAt wr.heap.size 0 [.int .i64 s, .int .u32 seq, .int .u64 stamp, .int .i64 service, .slice xa xn xc, .string payload]) (by kernel_rfl) (HS.out _ hSD.out) ?_
              intro hHeld
              (refine wpAnyH_take (i := 0) (v := ?_) rfl (by kernel_rfl) (by kernel_rfl) (by kernel_rfl) (fun _ _ _ h => h) (Or.inl ⟨by rfl, ?_⟩) (by assumption) ?_; rotate_left; (focus (intro w hSw; obtain ⟨s1, s2, s3, s4⟩ := hSw; clear s4; go_simp; (try with_reducible rfl))); (try simp only [Act.put, List.getElem_toArray, List.getElem_cons_zero, List.getElem_cons_succ, List.setIfInBounds_toArray, List.set_cons_zero, List.set_cons_succ]))
              (refine wpAnyH_take (i := 1) (v := .agg #[.int .i64 s, .int .u32 seq, .int .u64 stamp, .int .i64 service, .slice xa xn xc, .string payload]) rfl (by kernel_rfl) (by kernel_rfl) (by kernel_rfl) (fun _ _ _ h => h) ?_ (by assumption) ?_; (focus (exact yieldsIf_load_mid (by rfl) 59 (.tmp 12) rfl wr.heap.size 0 rfl [.int .i64 s, .int .u32 seq, .int .u64 stamp, .int .i64 service, .slice xa xn xc, .string payload] _ (fun W hW => hW.2.2.2) Tryd.underlying59 rfl hxi)); (try simp only [Act.put, List.getElem_toArray, List.getElem_cons_zero, List.getElem_cons_succ, List.setIfInBounds_toArray, List.set_cons_zero, List.set_cons_succ]))
              (refine wpAnyH_ready (rs := [2]) (by kernel_rfl) (by simp) ?_; refine AllReadyH.cons rfl (fun K hK => ?_) AllReadyH.nil)
              go_simp
              refine (HC1.out _ hSD.out).mono ?_
              rintro e w5 ⟨rfl, hb5⟩
              have hb6 := Lib.hid (belS hSD.out hb5)
              refine hK.out _ _ (HS.out _ hb6.out) (fun hHeld2 => ?_)
              clear hK K hHeld hb5
              (refine wpAnyH_take (i := 3) (v := ?_) rfl (by kernel_rfl) (by kernel_rfl) (by kernel_rfl) (fun _ _ _ h => h) (Or.inl ⟨by rfl, ?_⟩) (by assumption) ?_; rotate_left; (focus (intro w hSw; obtain ⟨s1, s2, s3, s4⟩ := hSw; clear s4; go_simp; (try with_reducible rfl))); (try simp only [Act.put, List.getElem_toArray, List.getElem_cons_zero, List.getElem_cons_succ, List.setIfInBounds_toArray, List.set_cons_zero, List.set_cons_succ]))
              (refine wpAnyH_take (i := 4) (v := undef) rfl (by kernel_rfl) (by kernel_rfl) (by kernel_rfl) (fun _ _ _ h => h) (Or.inr ⟨by rfl, rfl⟩) (by assumption) ?_; (try simp only [Act.put, List.getElem_toArray, List.getElem_cons_zero, List.getElem_cons_succ, List.setIfInBounds_toArray, List.set_cons_zero, List.set_cons_succ]))
              (refine wpAnyH_take (i := 5) (v := undef) rfl (by kernel_rfl) (by kernel_rfl) (by kernel_rfl) (fun _ _ _ h => h) (Or.inr ⟨by rfl, rfl⟩) (by assumption) ?_; (try simp only [Act.put, List.getElem_toArray, List.getElem_cons_zero, List.getElem_cons_succ, List.setIfInBounds_toArray, List.set_cons_zero, List.set_cons_succ]))
              (refine wpAnyH_take (i := 6) (v := undef) rfl (by kernel_rfl) (by kernel_rfl) (by kernel_rfl) (fun _ _ _ h => h) (Or.inr ⟨by rfl, rfl⟩) (by assumption) ?_; (try simp only [Act.put, List.getElem_toArray, List.getElem_cons_zero, List.getElem_cons_succ, List.setIfInBounds_toArray, List.set_cons_zero, List.set_cons_succ]))
              (refine wpAnyH_take (i := 7) (v := undef) rfl (by kernel_rfl) (by kernel_rfl) (by kernel_rfl) (fun _ _ _ h => h) (Or.inr ⟨by rfl, rfl⟩) (by assumption) ?_; (try simp only [Act.put, List.getElem_toArray, List.getElem_cons_zero, List.getElem_cons_succ, List.setIfInBounds_toArray, List.set_cons_zero, List.set_cons_succ]))
              (refine wpAnyH_take (i := 8) (v := undef) rfl (by kernel_rfl) (by kernel_rfl) (by kernel_rfl) (fun _ _ _ h => h) (Or.inr ⟨by rfl, rfl⟩) (by assumption) ?_; (try simp only [Act.put, List.getElem_toArray, List.getElem_cons_zero, List.getElem_cons_succ, List.setIfInBounds_toArray, List.set_cons_zero, List.set_cons_succ]))
              (refine wpAnyH_take (i := 9) (v := undef) rfl (by kernel_rfl) (by kernel_rfl) (by kernel_rfl) (fun _ _ _ h => h) (Or.inr ⟨by rfl, rfl⟩) (by assumption) ?_; (try simp only [Act.put, List.getElem_toArray, List.getElem_cons_zero, List.getElem_cons_succ, List.setIfInBounds_toArray, List.set_cons_zero, List.set_cons_succ]))
              (refine wpAnyH_take (i := 10) (v := undef) rfl (by kernel_rfl) (by kernel_rfl) (by kernel_rfl) (fun _ _ _ h => h) (Or.inr ⟨by rfl, rfl⟩) (by assumption) ?_; (try simp only [Act.put, List.getElem_toArray, List.getElem_cons_zero, List.getElem_cons_succ, List.setIfInBounds_toArray, List.set_cons_zero, List.set_cons_succ]))
              (refine wpAnyH_take (i := 11) (v := ?_) rfl (by kernel_rfl) (by kernel_rfl) (by kernel_rfl) (fun _ _ _ h => h) (Or.inl ⟨by rfl, ?_⟩) (by assumption) ?_; rotate_left; (focus (intro w hSw; obtain ⟨s1, s2, s3, s4⟩ := hSw; clear s4; go_simp; (try with_reducible rfl))); (try simp only [Act.put, List.getElem_toArray, List.getElem_cons_zero, List.getElem_cons_succ, List.setIfInBounds_toArray, List.set_cons_zero, List.set_cons_succ]))
              refine wpAnyH_done (by kernel_rfl) ?_ _
              go_wp2
              go_roundw
              case rel => exact ⟨k3 + 1, F, by omega, by go_num, Lib.hid HZ.out.symm, HOW.out _ hb6.out, HKA.out _ hb6.out, HBR.out _ hb6.out⟩
              case measure => simp [intOf]; omega
            | true =>
              have hcm : 0 < seq ∧ seq ≤ wholeV (vX pl) s := by have := hcb; unfold cntM at this; simpa using this
              have hin64 := HIN.out s (by omega)
              obtain ⟨p, rfl⟩ : ∃ p : Nat, s = p := ⟨s.toNat, by omega⟩
              have hp64 : p < 64 := by omega
              have HC1 := Lib.hid (fun W (hb : Below w4.heap.size w4 W) => (show Calls Tryd.prog 40 #[.pointer (some ⟨b, 0, none⟩), .agg #[.int .i64 (p : Int), .int .u32 seq, .int .u64 stamp, .int .i64 service, .slice xa xn xc, .string payload]] W fun e w' => e = .returned (.bool true) ∧ Below W.heap.size W w' from HCnt.out W (belS hbr4 hb) ⟨⟨(p : Int), seq, stamp, service, deps, payload⟩, xa, xn, xc⟩ true hcb.symm))
              have HS := Lib.hid (fun W (hb : Below w4.heap.size w4 W) => show W.cell? ⟨wr.heap.size, 0, none⟩ = some (.int .i64 (p : Int)) ∧ W.cell? ⟨wr.heap.size, 1, none⟩ = some (.int .u32 seq) ∧ W.cell? ⟨w.heap.size, p, none⟩ = some (.int .u32 (K p : Nat)) ∧ W.rangeAt wr.heap.size 0 [.int .i64 (p : Int), .int .u32 seq, .int .u64 stamp, .int .i64 service, .slice xa xn xc, .string payload] from ⟨(HR4.out W hb).1, (HR4.out W hb).2.1, (HKA.out W hb).cell p hp64, (HR4.out W hb).2.2⟩)
              have hpI : (p : Int) < 64 := by omega
              have HYES := Lib.hid (fun (h : seq ≤ K p) => HFS.out.trans (if_pos (HKQ.out.2 ⟨hcb, by simpa using h⟩)))
              have HNO := Lib.hid (fun (h : ¬ seq ≤ K p) => HFS.out.trans (if_neg (fun h2 => h (by have := (HKQ.out.1 h2).2; simpa using this))))
              clear HFS HKQ hcb hcm hin64
              generalize hkv : K p = kv at *
              replace hkv := Lib.hid hkv
              refine wp_region_held_drew (S := fun W => W.cell? ⟨wr.heap.size, 0, none⟩ = some (.int .i64 (p : Int)) ∧ W.cell? ⟨wr.heap.size, 1, none⟩ = some (.int .u32 seq) ∧ W.cell? ⟨w.heap.size, p, none⟩ = some (.int .u32 kv) ∧ W.rangeAt wr.heap.size 0 [.int .i64 (p : Int), .int .u32 seq, .int .u64 stamp, .int .i64 service, .slice xa xn xc, .string payload]) (by kernel_rfl) (HS.out _ hSD.out) ?_
              intro hHeld
              (refine wpAnyH_take (i := 0) (v := ?_) rfl (by kernel_rfl) (by kernel_rfl) (by kernel_rfl) (fun _ _ _ h => h) (Or.inl ⟨by rfl, ?_⟩) (by assumption) ?_; rotate_left; (focus (intro w hSw; obtain ⟨s1, s2, s3, s4⟩ := hSw; clear s4; go_simp; (try with_reducible rfl))); (try simp only [Act.put, List.getElem_toArray, List.getElem_cons_zero, List.getElem_cons_succ, List.setIfInBounds_toArray, List.set_cons_zero, List.set_cons_succ]))
              (refine wpAnyH_take (i := 1) (v := .agg #[.int .i64 (p : Int), .int .u32 seq, .int .u64 stamp, .int .i64 service, .slice xa xn xc, .string payload]) rfl (by kernel_rfl) (by kernel_rfl) (by kernel_rfl) (fun _ _ _ h => h) ?_ (by assumption) ?_; (focus (exact yieldsIf_load_mid (by rfl) 59 (.tmp 12) rfl wr.heap.size 0 rfl [.int .i64 (p : Int), .int .u32 seq, .int .u64 stamp, .int .i64 service, .slice xa xn xc, .string payload] _ (fun W hW => hW.2.2.2) Tryd.underlying59 rfl hxi)); (try simp only [Act.put, List.getElem_toArray, List.getElem_cons_zero, List.getElem_cons_succ, List.setIfInBounds_toArray, List.set_cons_zero, List.set_cons_succ]))
              (refine wpAnyH_ready (rs := [2]) (by kernel_rfl) (by simp) ?_; refine AllReadyH.cons rfl (fun K hK => ?_) AllReadyH.nil)
              go_simp
              refine (HC1.out _ hSD.out).mono ?_
              rintro e w5 ⟨rfl, hb5⟩
              have hb6 := Lib.hid (belS hSD.out hb5)
              refine hK.out _ _ (HS.out _ hb6.out) (fun hHeld2 => ?_)
              clear hK K hHeld hb5
              (refine wpAnyH_take (i := 3) (v := ?_) rfl (by kernel_rfl) (by kernel_rfl) (by kernel_rfl) (fun _ _ _ h => h) (Or.inl ⟨by rfl, ?_⟩) (by assumption) ?_; rotate_left; (focus (intro w hSw; obtain ⟨s1, s2, s3, s4⟩ := hSw; clear s4; go_simp; (try with_reducible rfl))); (try simp only [Act.put, List.getElem_toArray, List.getElem_cons_zero, List.getElem_cons_succ, List.setIfInBounds_toArray, List.set_cons_zero, List.set_cons_succ]))
              (refine wpAnyH_take (i := 4) (v := ?_) rfl (by kernel_rfl) (by kernel_rfl) (by kernel_rfl) (fun _ _ _ h => h) (Or.inl ⟨by rfl, ?_⟩) (by assumption) ?_; rotate_left; (focus (intro w hSw; obtain ⟨s1, s2, s3, s4⟩ := hSw; clear s4; go_simp; (try with_reducible rfl))); (try simp only [Act.put, List.getElem_toArray, List.getElem_cons_zero, List.getElem_cons_succ, List.setIfInBounds_toArray, List.set_cons_zero, List.set_cons_succ]))
              (refine wpAnyH_take (i := 5) (v := ?_) rfl (by kernel_rfl) (by kernel_rfl) (by kernel_rfl) (fun _ _ _ h => h) (Or.inl ⟨by rfl, ?_⟩) (by assumption) ?_; rotate_left; (focus (intro w hSw; obtain ⟨s1, s2, s3, s4⟩ := hSw; clear s4; go_simp; (try with_reducible rfl))); (try simp only [Act.put, List.getElem_toArray, List.getElem_cons_zero, List.getElem_cons_succ, List.setIfInBounds_toArray, List.set_cons_zero, List.set_cons_succ]))
              (refine wpAnyH_take (i := 6) (v := ?_) rfl (by kernel_rfl) (by kernel_rfl) (by kernel_rfl) (fun _ _ _ h => h) (Or.inl ⟨by rfl, ?_⟩) (by assumption) ?_; rotate_left; (focus (intro w hSw; obtain ⟨s1, s2, s3, s4⟩ := hSw; clear s4; go_simp; (try with_reducible rfl))); (try simp only [Act.put, List.getElem_toArray, List.getElem_cons_zero, List.getElem_cons_succ, List.setIfInBounds_toArray, List.set_cons_zero, List.set_cons_succ]))
              (refine wpAnyH_take (i := 7) (v := ?_) rfl (by kernel_rfl) (by kernel_rfl) (by kernel_rfl) (fun _ _ _ h => h) (Or.inl ⟨by rfl, ?_⟩) (by assumption) ?_; rotate_left; (focus (intro w hSw; obtain ⟨s1, s2, s3, s4⟩ := hSw; clear s4; go_simp; (try with_reducible rfl))); (try simp only [Act.put, List.getElem_toArray, List.getElem_cons_zero, List.getElem_cons_succ, List.setIfInBounds_toArray, List.set_cons_zero, List.set_cons_succ]))
              (refine wpAnyH_take (i := 8) (v := ?_) rfl (by kernel_rfl) (by kernel_rfl) (by kernel_rfl) (fun _ _ _ h => h) (Or.inl ⟨by rfl, ?_⟩) (by assumption) ?_; rotate_left; (focus (intro w hSw; obtain ⟨s1, s2, s3, s4⟩ := hSw; clear s4; go_simp; (try with_reducible rfl))); (try simp only [Act.put, List.getElem_toArray, List.getElem_cons_zero, List.getElem_cons_succ, List.setIfInBounds_toArray, List.set_cons_zero, List.set_cons_succ]))
              (refine wpAnyH_take (i := 9) (v := ?_) rfl (by kernel_rfl) (by kernel_rfl) (by kernel_rfl) (fun _ _ _ h => h) (Or.inl ⟨by rfl, ?_⟩) (by assumption) ?_; rotate_left; (focus (intro w hSw; obtain ⟨s1, s2, s3, s4⟩ := hSw; clear s4; go_simp; (try with_reducible rfl))); (try simp only [Act.put, List.getElem_toArray, List.getElem_cons_zero, List.getElem_cons_succ, List.setIfInBounds_toArray, List.set_cons_zero, List.set_cons_succ]))
              (refine wpAnyH_take (i := 10) (v := ?_) rfl (by kernel_rfl) (by kernel_rfl) (by kernel_rfl) (fun _ _ _ h => h) (Or.inl ⟨by rfl, ?_⟩) (by assumption) ?_; rotate_left; (focus (intro w hSw; obtain ⟨s1, s2, s3, s4⟩ := hSw; clear s4; go_simp; (try with_reducible rfl))); (try simp only [Act.put, List.getElem_toArray, List.getElem_cons_zero, List.getElem_cons_succ, List.setIfInBounds_toArray, List.set_cons_zero, List.set_cons_succ]))
              (refine wpAnyH_take (i := 11) (v := ?_) rfl (by kernel_rfl) (by kernel_rfl) (by kernel_rfl) (fun _ _ _ h => h) (Or.inl ⟨by rfl, ?_⟩) (by assumption) ?_; rotate_left; (focus (intro w hSw; obtain ⟨s1, s2, s3, s4⟩ := hSw; clear s4; go_simp; (try with_reducible rfl))); (try simp only [Act.put, List.getElem_toArray, List.getElem_cons_zero, List.getElem_cons_succ, List.setIfInBounds_toArray, List.set_cons_zero, List.set_cons_succ]))
              refine wpAnyH_done (by kernel_rfl) ?_ _
              clear HC1 HS hHeld2
              by_cases hqk : seq ≤ kv
              · have hqkI : (seq : Int) ≤ kv := by omega
                have HZ := Lib.hid (HYES.out hqk)
                have HXB := Lib.hid (HXA.out _ hb6.out)
                obtain ⟨x0, x1, x2, x3, x4, x5⟩ := blk6 HXB.out
                have hb7 := belS hb6.out (alloc_below w5 (.cells #[.int .i64 (p : Int), .int .u32 seq, .int .u64 stamp, .int .i64 service, .slice xa xn xc, .string payload] 59))
                have hown7 := HOW.out _ hb7
                have hlv := Rd.blk1 (w := w5) (e := 59) (cs := [.int .i64 (p : Int), .int .u32 seq, .int .u64 stamp, .int .i64 service, .slice xa xn xc, .string payload]) (sz := 6) (b := w5.heap.size) rfl rfl
                have hbr7 := HBR.out _ hb7
                have hK7 := HKA.out _ hb7
                clear HYES HNO
                go_wp2_with (first
                  | (refine wpList_buildSlice1 (cs := #[.int .i64 (p : Int), .int .u32 seq, .int .u64 stamp, .int .i64 service, .slice xa xn xc, .string payload]) rfl 50 59 (.tmp 72) rfl Tryd.msE (by decide) (by rfl) rfl ?_)
                  | (at_builtin; refine wpList_append_rd Tryd.msE rfl (.tmp 71) (.tmp 73) rfl hown7 rfl hlv rfl (by intro u hu; simp at hu; rcases hu with rfl | rfl | rfl | rfl | rfl | rfl <;> rfl) (by unfold maxLen; omega) (by omega) hK7.lt ?_; intro v' w8 hown' hg'))
                have hb8 := Lib.hid (belG hbr7 hg' hbr7.size (fun g hg => by have := (hown7.lt g hg).1; omega))
                have hK8 : KAt w8 w.heap.size K := (hg'.block _ hK7.lt (fun e => by have := (hown7.lt _ e.symm).1; omega)).trans hK7
                go_roundw
                case rel => exact ⟨k3 + 1, F ++ [⟨⟨(p : Int), seq, stamp, service, deps, payload⟩, xa, xn, xc⟩], by omega, by go_num, Lib.hid HZ.out.symm, by rw [List.flatMap_append, List.length_append]; simpa [mcC] using hown', hK8, hb8.out⟩
                case measure => simp [intOf]; omega
              · have hqkI : (kv : Int) < seq := by omega
                have HZ := Lib.hid (HNO.out hqk)
                clear HYES HNO
                go_wp2
                go_roundw
                case rel => exact ⟨k3 + 1, F, by omega, by go_num, Lib.hid HZ.out.symm, HOW.out _ hb6.out, HKA.out _ hb6.out, HBR.out _ hb6.out⟩
                case measure => simp [intOf]; omega
          · have hkn3 : k3 = n := by omega
            obtain ⟨v, c', rfl, hrd⟩ := Rd.own hown
            have hkI3 : (n : Int) ≤ k3 := by omega
            have HFF := Lib.hid (show F = l.filter fun x => keptB (wholeV (vX pl)) (mX l) x.m from by rw [hF.out, List.take_of_length_le (by rw [hl.out, hkn3]; exact Nat.le_refl _)])
            clear hF
            go_wp2
            simp only [Exit.jump]
            go_ret
            refine ⟨_, _, _, rfl, ?_, hbr⟩
            rw [← HFF.out]
            refine ⟨hrd, fun x hx => ?_⟩
            rw [HFF.out] at hx
            exact (hr.inn x (List.mem_filter.1 hx).1).below hbr
  · intro hpass
    go_wp2_with (first
      | (refine wpList_blk_alloc rfl rfl Tryd.arrZ w.heap.size rfl ?_; generalize (w.alloc (.cells (arrU fun _ => 0) 76)) = w1 at *))
    go_loopw [6, 13] (fun _ i wr => ∃ k : Nat, k ≤ 64 ∧ i = .int .i64 k ∧ KAt wr w.heap.size (fun i => if i < k then wholeV (vX pl) i else 0) ∧ Below w.heap.size w wr) (fun _ i _ => 64 - (intOf i).toNat)
    case atStart => exact ⟨0, by decide, rfl, hA, hb1⟩
    case round =>
      clear hA hb1
      obtain ⟨k, hk, rfl, hK, hbr⟩ := hrel
      by_cases hkn : k < 64
      · have hkI : (k : Int) < 64 := by omega
        go_wp2_with fail
        refine (HW.out _ hbr k).mono ?_
        rintro e w2 ⟨rfl, hb2⟩
        have hK2 := hK.below hb2
        have c2 := hK2.cell k hkn
        have f2 := hK2.fz k
        rw [if_neg (Nat.lt_irrefl _)] at c2
        have hK3 := hK2.set k (wholeV (vX pl) k) hkn
        replace hK3 := Lib.hid (hK3.congr (L := fun i => if i < k + 1 then wholeV (vX pl) i else 0) (fun i hi => by
          by_cases hik : i = k
          · subst hik; rw [if_pos rfl, if_pos (by omega)]
          · rw [if_neg hik]
            by_cases h2 : i < k
            · rw [if_pos h2, if_pos (by omega)]
            · rw [if_neg h2, if_neg (by omega)]))
        have hb3 := Lib.hid (Kp.below (hbr.trans (hb2.mono hbr.size)) (Kp.setCell (Kp.refl w.heap.size w2) ⟨w.heap.size, k, none⟩ rfl (.int .u32 (wholeV (vX pl) k : Nat))) (Nat.le_refl _) (Nat.le_trans hbr.size hb2.size))
        generalize wholeV (vX pl) k = wn at *
        clear hK hbr hK2 hb2
        go_wp2
        go_roundw
        case rel => exact ⟨k + 1, by omega, by go_num, hK3.out, hb3.out⟩
        case measure => simp [intOf]; omega
      · have hk64 : k = 64 := by omega
        have hkI : (64 : Int) ≤ k := by omega
        have hK64 : KAt wr w.heap.size (fun i => wholeV (vX pl) i) := hK.congr (fun i hi => by rw [if_pos (by omega)])
        have hJ := Lib.hid (fun (x : Act) hx => hpass x wr ⟨_, Lib.hid (KInv.start _ _), hK64, hbr, hx⟩)
        clear hpass hK hK64
        go_wp2
        go_step3
        go_step
        go_step
        refine hJ.out _ ?_
        (repeat apply Exists.intro)
        rfl
end Go.Proofs.YtikhpafdnohhkaaDoor
