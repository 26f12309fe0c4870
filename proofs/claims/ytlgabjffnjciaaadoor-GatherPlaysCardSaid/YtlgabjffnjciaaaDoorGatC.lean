/- gather: Waits, Exchanges, Copy, ID -/
import Derived.Test.YtlgabjffnjciaaaDoorGatB
import Derived.Test.YtlgabjffnjciaaaDoorPAp
import Derived.Test.YtlgabjffnjciaaaDoorSetB
import Derived.Deep.MidRow
namespace Go.Proofs.YtlgabjffnjciaaaDoor
set_option linter.unusedSimpArgs false
set_option linter.unusedVariables false
open Go.RowKit Go.Sort
theorem nodup_len : ∀ (n : Nat) (l : List Nat), l.Nodup → (∀ x ∈ l, x < n) → l.length ≤ n := by
  intro n
  induction n with
  | zero => intro l _ h; cases l with
    | nil => exact Nat.le_refl _
    | cons x l => exact absurd (h x (by simp)) (by omega)
  | succ n ih =>
    intro l hd h
    by_cases hm : n ∈ l
    · have h1 := ih (l.erase n) (hd.erase n) (fun x hx => by
        have h2 := (hd.mem_erase_iff).1 hx
        have := h x h2.2
        have := h2.1
        omega)
      rw [List.length_erase_of_mem hm] at h1
      omega
    · have := ih l hd (fun x hx => by
        have h2 := h x hx
        have h3 : x ≠ n := fun e => hm (e ▸ hx)
        omega)
      omega
theorem who_in {mem : Nat} {p : Int} (h : hasB mem p = true) : 0 ≤ p ∧ p < 64 := by
  rw [hasB_eq, Bool.and_eq_true, decide_eq_true_eq] at h
  exact h.1
theorem GatAt.len {w : World} {b mb : Nat} {s : AtS} (h : GatAt w b mb s) : s.xs.length ≤ 64 := by
  have hd := h.map.nodup
  have h2 : ((xsM s.xs).map (·.1)).length = s.xs.length := by simp [xsM]
  have h3 := nodup_len 64 (((xsM s.xs).map (·.1)).map Int.toNat) (by
    refine List.pairwise_map.2 (hd.imp_of_mem (fun {a b} ha hb hne e => hne ?_))
    have key : ∀ a ∈ (xsM s.xs).map (·.1), 0 ≤ a ∧ a < 64 := fun a ha => by
      obtain ⟨q, hq, rfl⟩ := List.mem_map.1 ha
      obtain ⟨x, hx, rfl⟩ := List.mem_map.1 hq
      exact who_in (h.ok.who x hx)
    have := key a ha
    have := key b hb
    omega) (fun y hy => by
    obtain ⟨q, hq, rfl⟩ := List.mem_map.1 hy
    obtain ⟨q2, hq2, rfl⟩ := List.mem_map.1 hq
    obtain ⟨x', hx', rfl⟩ := List.mem_map.1 hq2
    have := who_in (h.ok.who x' hx')
    show x'.v.who.toNat < 64
    omega)
  simpa [xsM] using h3
theorem GatAt.wf {w : World} {b mb : Nat} {s : AtS} (h : GatAt w b mb s) : ∀ p ∈ xsM s.xs, (Lit.int .i64 p.1).wf = true := by
  intro p hp
  obtain ⟨x, hx, rfl⟩ := List.mem_map.1 hp
  have := who_in (h.ok.who x hx)
  exact WalkArith.wf_i64 (by omega)
theorem withN_perm {l l' : List Int} (h : l.Perm l') : withN 0 l = withN 0 l' := by
  refine ext64 (withN_lt _ (by decide)) (withN_lt _ (by decide)) (fun i hi => ?_)
  rw [withN_bit _ _ hi, withN_bit _ _ hi]
  congr 1
  rw [Bool.eq_iff_iff, List.contains_iff_mem, List.contains_iff_mem, h.mem_iff]
def waitsV (v : AtV) : Nat := if toldV v = true then butN v.mem v.rdy else butN v.mem (withN 0 (v.xs.map (·.who)))
theorem waitsV_lt {v : AtV} (h : v.mem < 18446744073709551616) : waitsV v < 18446744073709551616 := by
  unfold waitsV
  split <;> exact but_lt _ _ h
set_option maxHeartbeats 1600000 in
theorem waits_any (s : AtS) (b mb : Nat) (w : World) (h : GatAt w b mb s) :
    Calls Tryd.prog 28 #[.pointer (some ⟨b, 0, none⟩)] w fun e w' => e = .returned (.int .u64 (waitsV s.val : Nat)) ∧ Below w.heap.size w w' := by
  obtain ⟨tt, htt⟩ : ∃ tt, tt = toldB s := ⟨_, rfl⟩
  have HT0 := Lib.hid (told_any s b mb tt htt w h)
  have hv := Lib.hid (show waitsV s.val = if tt = true then butN s.mem s.rdy else butN s.mem (withN 0 ((xsM s.xs).map (·.1))) from by
    rw [htt, toldB_val, waitsV]
    simp [AtS.val, vX, xsM, List.map_map, Function.comp_def])
  have hwf := Lib.hid h.wf
  have hlen := Lib.hid h.len
  have hm := h.ok.mem
  have hr := h.ok.rdy
  replace h := Lib.hid h
  clear htt
  go_enter Tryd.func28, Tryd.ntmps28
  go_wp2_with fail
  refine HT0.out.mono ?_
  rintro e w2 ⟨rfl, hb2⟩
  have h2 := Lib.hid (h.out.below hb2)
  cases tt with
  | true =>
    have hz := Lib.hid (hv.out.trans (if_pos rfl))
    obtain ⟨c0, c1, c2, c3, c4⟩ := blk5 h2.out.blk
    have k2 := cell_regrown c2
    have k4 := cell_regrown c4
    have kB := fun d os => Calls.regrown_of (pureB (but_any s.mem s.rdy hm hr (grow (redrawn w2 d) os)))
    clear hv c0 c1 c2 c3 c4
    go_upto_region 2 with (fail)
    refine wp_region_quiet_below (by kernel_rfl) (by kernel_rfl) ?_
    iterate 10 (go_big_quiet_step (first | (with_reducible exact kB _ _)))
    refine wpQuiet_nil ?_; intro w4' hw'; obtain ⟨⟨dq, osq⟩, hw''⟩ := hw'; subst hw''
    go_wp2
    go_ret
    exact ⟨by rw [hz.out]; rfl, belS hb2 (below_regrown _ _ _)⟩
  | false =>
    have hz := Lib.hid (hv.out.trans (if_neg (by decide)))
    clear hv
    have HS := Lib.hid (fun W (hb : Below w2.heap.size w2 W) => show W.cell? ⟨b, 2, none⟩ = some (.int .u64 (s.mem : Nat)) ∧ W.cell? ⟨b, 3, none⟩ = some (.map (some mb)) ∧ True ∧ True from
      ⟨(h2.out.below hb).blk.cell (i := 2) rfl, (h2.out.below hb).blk.cell (i := 3) rfl, trivial, trivial⟩)
    have hbD : Hid (Below w2.heap.size w2 w2.drew) := Lib.hid (Below.refl _ _).drew
    go_upto_region 3 with (fail)
    refine wp_region_held_drew (S := fun W => W.cell? ⟨b, 2, none⟩ = some (.int .u64 (s.mem : Nat)) ∧ W.cell? ⟨b, 3, none⟩ = some (.map (some mb)) ∧ True ∧ True) (by kernel_rfl) (HS.out _ hbD.out) ?_
    intro hHeld
    (refine wpAnyH_take (i := 0) (v := ?_) rfl (by kernel_rfl) (by kernel_rfl) (by kernel_rfl) (fun _ _ _ h => h) (Or.inl ⟨by rfl, ?_⟩) (by assumption) ?_; rotate_left; (focus (intro w hSw; obtain ⟨s1, s2, s3, s4⟩ := hSw; clear s4; go_simp; (try with_reducible rfl))); (try simp only [Act.put, List.getElem_toArray, List.getElem_cons_zero, List.getElem_cons_succ, List.setIfInBounds_toArray, List.set_cons_zero, List.set_cons_succ]))
    (refine wpAnyH_take (i := 1) (v := ?_) rfl (by kernel_rfl) (by kernel_rfl) (by kernel_rfl) (fun _ _ _ h => h) (Or.inl ⟨by rfl, ?_⟩) (by assumption) ?_; rotate_left; (focus (intro w hSw; obtain ⟨s1, s2, s3, s4⟩ := hSw; clear s4; go_simp; (try with_reducible rfl))); (try simp only [Act.put, List.getElem_toArray, List.getElem_cons_zero, List.getElem_cons_succ, List.setIfInBounds_toArray, List.set_cons_zero, List.set_cons_succ]))
    (refine wpAnyH_take (i := 2) (v := ?_) rfl (by kernel_rfl) (by kernel_rfl) (by kernel_rfl) (fun _ _ _ h => h) (Or.inl ⟨by rfl, ?_⟩) (by assumption) ?_; rotate_left; (focus (intro w hSw; obtain ⟨s1, s2, s3, s4⟩ := hSw; clear s4; go_simp; (try with_reducible rfl))); (try simp only [Act.put, List.getElem_toArray, List.getElem_cons_zero, List.getElem_cons_succ, List.setIfInBounds_toArray, List.set_cons_zero, List.set_cons_succ]))
    (refine wpAnyH_take (i := 3) (v := ?_) rfl (by kernel_rfl) (by kernel_rfl) (by kernel_rfl) (fun _ _ _ h => h) (Or.inl ⟨by rfl, ?_⟩) (by assumption) ?_; rotate_left; (focus (intro w hSw; obtain ⟨s1, s2, s3, s4⟩ := hSw; clear s4; go_simp; (try with_reducible rfl))); (try simp only [Act.put, List.getElem_toArray, List.getElem_cons_zero, List.getElem_cons_succ, List.setIfInBounds_toArray, List.set_cons_zero, List.set_cons_succ]))
    (refine wpAnyH_take (i := 4) (v := ?_) rfl (by kernel_rfl) (by kernel_rfl) (by kernel_rfl) (fun _ _ _ h => h) (Or.inl ⟨by rfl, ?_⟩) (by assumption) ?_; rotate_left; (focus (intro w hSw; obtain ⟨s1, s2, s3, s4⟩ := hSw; clear s4; go_simp; (try with_reducible rfl))); (try simp only [Act.put, List.getElem_toArray, List.getElem_cons_zero, List.getElem_cons_succ, List.setIfInBounds_toArray, List.set_cons_zero, List.set_cons_succ]))
    (refine wpAnyH_take (i := 5) (v := ?_) rfl (by kernel_rfl) (by kernel_rfl) (by kernel_rfl) (fun _ _ _ h => h) (Or.inl ⟨by rfl, ?_⟩) (by assumption) ?_; rotate_left; (focus (intro w hSw; obtain ⟨s1, s2, s3, s4⟩ := hSw; clear s4; go_simp; (try with_reducible rfl))); (try simp only [Act.put, List.getElem_toArray, List.getElem_cons_zero, List.getElem_cons_succ, List.setIfInBounds_toArray, List.set_cons_zero, List.set_cons_succ]))
    (refine wpAnyH_take (i := 6) (v := ?_) rfl (by kernel_rfl) (by kernel_rfl) (by kernel_rfl) (fun _ _ _ h => h) (Or.inl ⟨by rfl, ?_⟩) (by assumption) ?_; rotate_left; (focus (intro w hSw; obtain ⟨s1, s2, s3, s4⟩ := hSw; clear s4; go_simp; (try with_reducible rfl))); (try simp only [Act.put, List.getElem_toArray, List.getElem_cons_zero, List.getElem_cons_succ, List.setIfInBounds_toArray, List.set_cons_zero, List.set_cons_succ]))
    (refine wpAnyH_take (i := 7) (v := ?_) rfl (by kernel_rfl) (by kernel_rfl) (by kernel_rfl) (fun _ _ _ h => h) (Or.inl ⟨by rfl, ?_⟩) (by assumption) ?_; rotate_left; (focus (intro w hSw; obtain ⟨s1, s2, s3, s4⟩ := hSw; clear s4; go_simp; (try with_reducible rfl))); (try simp only [Act.put, List.getElem_toArray, List.getElem_cons_zero, List.getElem_cons_succ, List.setIfInBounds_toArray, List.set_cons_zero, List.set_cons_succ]))
    (refine wpAnyH_ready (rs := [8]) (by kernel_rfl) (by simp) ?_; refine AllReadyH.cons rfl (fun K hK => ?_) AllReadyH.nil)
    go_simp
    refine (keys_any (some mb) _).mono ?_
    rintro e w3 ⟨rfl, rfl⟩
    have hb3 := Lib.hid (belS hbD.out (alloc_below w2.drew (.cells #[.map (some mb)] 70)))
    have hcell : (w2.drew.alloc (.cells #[.map (some mb)] 70)).cell? ⟨w2.drew.heap.size, 0, none⟩ = some (.map (some mb)) := (BlkAt.new w2.drew 70 #[.map (some mb)]).cell rfl
    have hlt3 := (BlkAt.new w2.drew 70 #[.map (some mb)]).lt
    have HCo := Lib.hid (coll_any w2.drew.heap.size mb (xsM s.xs) _ hcell hlt3 (h2.out.below hb3.out).map hwf.out (by have := hlen.out; simp [xsM]; omega))
    refine hK.out _ _ (HS.out _ hb3.out) (fun hHeld2 => ?_)
    clear hK K hHeld
    generalize w2.drew.heap.size = sz3 at *
    generalize (w2.drew.alloc (.cells #[.map (some mb)] 70)) = w3 at *
    clear hcell hlt3
    (refine wpAnyH_ready (rs := [9]) (by kernel_rfl) (by simp) ?_; refine AllReadyH.cons rfl (fun K hK => ?_) AllReadyH.nil)
    go_simp
    refine HCo.out.mono ?_
    rintro e w4 ⟨a4, c4, ss, rfl, hp4, hr4, hb4⟩
    have hb4' := Lib.hid (belS hb3.out hb4)
    have hmx4 : ss.length ≤ 9223372036854775807 := by have := Rd.le_max hr4; unfold maxLen at this; omega
    refine hK.out _ _ (HS.out _ hb4'.out) (fun hHeld3 => ?_)
    clear hK K hHeld2 HCo hb4
    (refine wpAnyH_ready (rs := [10]) (by kernel_rfl) (by simp) ?_; refine AllReadyH.cons rfl (fun K hK => ?_) AllReadyH.nil)
    go_simp
    refine (less_any s.mem ss.length c4 a4 ss _ hm hmx4 hr4).mono ?_
    rintro e w5 ⟨rfl, rfl⟩
    refine hK.out _ _ (HS.out _ hb4'.out) (fun hHeld4 => ?_)
    clear hK K hHeld3
    (refine wpAnyH_take (i := 11) (v := ?_) rfl (by kernel_rfl) (by kernel_rfl) (by kernel_rfl) (fun _ _ _ h => h) (Or.inl ⟨by rfl, ?_⟩) (by assumption) ?_; rotate_left; (focus (intro w hSw; obtain ⟨s1, s2, s3, s4⟩ := hSw; clear s4; go_simp; (try with_reducible rfl))); (try simp only [Act.put, List.getElem_toArray, List.getElem_cons_zero, List.getElem_cons_succ, List.setIfInBounds_toArray, List.set_cons_zero, List.set_cons_succ]))
    refine wpAnyH_done (by kernel_rfl) ?_ _
    go_wp2
    go_ret
    refine ⟨?_, belS hb2 hb4'.out⟩
    rw [hz.out, ← withN_perm hp4]
    rfl
set_option maxHeartbeats 800000 in
theorem id_any (s : AtS) (b mb : Nat) (w : World) (h : GatAt w b mb s) :
    Calls Tryd.prog 31 #[.pointer (some ⟨b, 0, none⟩)] w fun e w' => e = .returned (.agg #[.int .u64 s.ep, .int .i64 s.rp]) ∧ Below w.heap.size w w' := by
  have hb := h.blk
  have hi := Tryd.confI s.ep s.rp
  have hZ := BlkAt.new w 24 #[.int .u64 0, .int .i64 0]
  have hb1 := alloc_below w (.cells #[.int .u64 0, .int .i64 0] 24)
  have hrg : (w.alloc (.cells #[.int .u64 0, .int .i64 0] 24)).rangeAt b 0 [.int .u64 s.ep, .int .i64 s.rp] := by
    obtain ⟨c0, c1, _⟩ := blk5 (h.below hb1).blk
    intro j v hj
    match j, hj with
    | 0, hj => simp at hj; subst hj; exact c0
    | 1, hj => simp at hj; subst hj; exact c1
  clear h
  go_enter Tryd.func31, Tryd.ntmps31
  go_wp2_with (first
    | (refine wpList_blk_alloc rfl rfl (show (Tryd.prog.info? 24).map (·.zero) = some (some (.agg #[.int .u64 0, .int .i64 0])) by kernel_rfl) w.heap.size rfl ?_)
    | (refine wpList_load_mid rfl _ (.tmp 5) rfl b 0 rfl [.int .u64 s.ep, .int .i64 s.rp] _ hrg Tryd.underlying24 rfl hi ?_)
    | (refine wpList_blk_store (cs := #[.int .u64 s.ep, .int .i64 s.rp]) rfl (.tmp 2) (.tmp 6) rfl rfl rfl hZ hi rfl (by simp [Value.oneCell']) ?_; intro w4 hB4 hK4 hsz4))
  refine bodyPost_ret (results_cell_row rfl _ _ w.heap.size 24 _ (0, 0) _ rfl hB4 Tryd.underlying24 rfl hi) rfl ⟨rfl, alloc_store hK4⟩
theorem Tryd.atZ : (Tryd.prog.info? 72).map (·.zero) = some (some (.agg #[.int .u64 0, .int .i64 0, .int .u64 0, .map none, .int .u64 0])) := by kernel_rfl
set_option maxHeartbeats 1600000 in
theorem copy_any (s : AtS) (b mb : Nat) (w : World) (h : GatAt w b mb s) :
    Calls Tryd.prog 35 #[.pointer (some ⟨b, 0, none⟩)] w fun e w' => ∃ cb cmb, e = .returned (.pointer (some ⟨cb, 0, none⟩)) ∧ GatAt w' cb cmb s ∧ w.heap.size ≤ cb ∧ w.heap.size ≤ cmb ∧ Below w.heap.size w w' := by
  have hb := h.blk
  have hi := Tryd.atI s mb
  have hZ := BlkAt.new w 72 #[.int .u64 0, .int .i64 0, .int .u64 0, .map none, .int .u64 0]
  replace h := Lib.hid h
  go_enter Tryd.func35, Tryd.ntmps35
  go_upto_region 2 with (first
    | (refine wpList_blk_load rfl (.tmp 5) rfl Tryd.underlying72 rfl rfl hb hi ?_)
    | (refine wpList_blk_alloc rfl rfl Tryd.atZ w.heap.size rfl ?_)
    | (refine wpList_blk_store (cs := atA s mb) rfl (.tmp 3) (.tmp 6) rfl rfl rfl hZ hi rfl (atA_one s mb) ?_; intro w2 hB2 hK2 hsz2))
  have hb2 := alloc_store hK2
  have h2 := Lib.hid (h.out.below hb2)
  obtain ⟨c0, c1, c2, c3, c4⟩ := blk5 h2.out.blk
  have HC := Lib.hid (clone_map mb (xsM s.xs) w2 h2.out.map)
  have hltB := hB2.lt
  go_wp2_with fail
  refine HC.out.mono ?_
  rintro e w3 ⟨rfl, hM3, hb3, hsz3⟩
  have hw2 : w2.heap.size = w.heap.size + 1 := by rw [hsz2]; simp
  rw [hw2] at hM3 hsz3
  have hB3 := hB2.below hb3 hB2.lt
  have f3 := hB3.fz 3
  have hc3 := hB3.cell (i := 3) (v := .map (some mb)) rfl
  clear c0 c1 c2 c3 c4 HC
  go_wp2
  go_ret
  have hbl := h.out.blk.lt
  have hml := h.out.map.lt
  refine ⟨w.heap.size, (w.heap.size + 1), rfl, ⟨?_, ?_, ?_, ?_, h.out.ok⟩, Nat.le_refl _, by omega, ?_⟩
  · have := BlkAt.set hB3 3 (.map (some (w.heap.size + 1)))
    simpa [atA] using this
  · exact hM3.setCell (by show (w.heap.size + 1) ≠ w.heap.size; omega) _
  · intro x hx
    have h4 := (h.out.inn x hx).below (belS hb2 hb3)
    refine RdU.kpO (O := fun g => g = w.heap.size) ((KpO.refl (fun g => g = w.heap.size) w3).setCell ⟨w.heap.size, 3, none⟩ rfl _) h4 (fun g off e hn => ?_)
    obtain ⟨b', o', e', hl⟩ := Rd.addr (h.out.inn x hx) (by omega)
    rw [e] at e'; injection e' with e'; injection e' with e1
    show ¬ g = w.heap.size
    omega
  · intro x hx g off e hn
    obtain ⟨b', o', e', hl⟩ := Rd.addr (h.out.inn x hx) (by omega)
    rw [e] at e'; injection e' with e'; injection e' with e1
    omega
  · exact Kp.below (belS hb2 hb3) ((Kp.refl w.heap.size w3).setCell ⟨w.heap.size, 3, none⟩ rfl _) (Nat.le_refl _) (by omega)
/-- The exchanges, by rising members. -/
def exsV (v : AtV) : List Xv := (memI v.mem).filterMap fun p => v.xs.find? fun x => decide (x.who = p)
theorem get_cases (xs : List Xc) (p : Int) : (mGet (xsM xs) p = none ∧ (vX xs).find? (fun x => decide (x.who = p)) = none) ∨ ∃ x ∈ xs, mGet (xsM xs) p = some (.agg (xcA x)) ∧ (vX xs).find? (fun x => decide (x.who = p)) = some x.v := by
  have e1 : mGet (xsM xs) p = (xs.find? (fun x => decide (x.v.who = p))).map (fun x => .agg (xcA x)) := by
    unfold mGet xsM
    rw [List.find?_map, Option.map_map]
    congr 1
  have e2 : (vX xs).find? (fun x => decide (x.who = p)) = (xs.find? (fun x => decide (x.v.who = p))).map (·.v) := by
    unfold vX
    rw [List.find?_map]
    rfl
  cases h : xs.find? (fun x => decide (x.v.who = p)) with
  | none => exact .inl ⟨by rw [e1, h]; rfl, by rw [e2, h]; rfl⟩
  | some x => exact .inr ⟨x, List.mem_of_find?_eq_some h, by rw [e1, h]; rfl, by rw [e2, h]; rfl⟩
end Go.Proofs.YtlgabjffnjciaaaDoor
