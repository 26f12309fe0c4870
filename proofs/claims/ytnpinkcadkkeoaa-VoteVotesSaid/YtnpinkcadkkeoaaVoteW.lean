/- the walk of VoteVotes -/
import Derived.Test.YtnpinkcadkkeoaaVoteV
namespace Go.Proofs.Ytnpinkcadkkeoaa
open Go.RowKit Go.Sort
set_option maxHeartbeats 6400000 in
set_option maxRecDepth 100000 in
theorem votes_law0 (sa : Option Addr) (n c : Nat) (x : Nat) (y : Int) (l : List Rc) (hx : x < 18446744073709551616) (hwf : ∀ r ∈ l, r.Wf) (hz : ∀ r ∈ l, r.pend.length ≤ 4398046511104) (w : World) (hr : RdR w sa n c l) :
    Calls Try.prog 3 #[.slice sa n c, .int .u64 x, .int .i64 y] w fun e w' => e = .returned (.bool true) ∧ Below w.heap.size w w' := by
  go_enter Try.func3, Try.ntmps3
  go_wp2_with fail
  refine (awake_any _).mono ?_
  rintro e w1 ⟨rfl, E⟩
  replace hr := hr.below E
  go_wp2_with fail
  refine (few_any sa n c l hz _ hr).mono ?_
  rintro e w' ⟨rfl, rfl⟩
  cases hf : fewB l with
  | false =>
    go_wp2
    go_ret
    exact ⟨rfl, E⟩
  | true =>
    have hff : l.length + tot l ≤ 300 := by
      unfold fewB at hf
      exact of_decide_eq_true hf
    have ht : tot l ≤ 1000000 := by omega
    have hln := hr.len
    have hn : n ≤ 1000 := by omega
    go_wp2_with fail
    refine (ofr_any sa n c l hn _ hr).mono ?_
    rintro e w2 ⟨ra, rc, rfl, hr2, hb⟩
    replace E := belS E hb
    replace hr := hr.below hb
    clear hb
    have HF := Lib.hid (fun W => first_any y W)
    have HAll := Lib.hid (fun W => allS_any y W)
    generalize allN y = al at *
    go_wp2_with fail
    refine (HF.out _).mono ?_
    rintro e w3 ⟨rfl, hb⟩
    replace E := belS E hb
    replace hr := hr.below hb
    replace hr2 := hr2.below hb
    clear hb
    have hZ := BlkAt.new w3 34 #[.int .u64 0, .int .u64 0, .int .i64 0, .int .u64 0, .slice none 0 0]
    go_wp2_with (first
      | (refine wpList_blk_alloc rfl rfl Try.recZ w3.heap.size rfl ?_)
      | (refine wpList_blk_store rfl (.tmp 8) (.tmp 17) rfl rfl rfl hZ Try.recI rfl (by simp [Value.oneCell']) ?_; intro w6 hS hK hsz;
           replace hK := alloc_store hK; replace E := belS E hK; replace hr := hr.below hK; replace hr2 := hr2.below hK; clear hZ hsz hK))
    generalize w3.heap.size = fb at *
    have H11 := fun W (h : Below w6.heap.size w6 W ∧ W.cell? ⟨fb, 0, none⟩ = some (.int .u64 0) ∧ W.cell? ⟨fb, 1, none⟩ = some (.int .u64 0) ∧ W.cell? ⟨fb, 2, none⟩ = some (.int .i64 0) ∧ W.cell? ⟨fb, 3, none⟩ = some (.int .u64 al) ∧ W.cell? ⟨fb, 4, none⟩ = some (.slice none 0 0)) => last_any sa n c l W (hr.below h.1)
    have H12 := fun W (h : Below w6.heap.size w6 W ∧ W.cell? ⟨fb, 0, none⟩ = some (.int .u64 0) ∧ W.cell? ⟨fb, 1, none⟩ = some (.int .u64 0) ∧ W.cell? ⟨fb, 2, none⟩ = some (.int .i64 0) ∧ W.cell? ⟨fb, 3, none⟩ = some (.int .u64 al) ∧ W.cell? ⟨fb, 4, none⟩ = some (.slice none 0 0)) => rlast_any ra n rc l W (hr2.below h.1)
    have H14 := fun W (h : Below w6.heap.size w6 W ∧ W.cell? ⟨fb, 0, none⟩ = some (.int .u64 0) ∧ W.cell? ⟨fb, 1, none⟩ = some (.int .u64 0) ∧ W.cell? ⟨fb, 2, none⟩ = some (.int .i64 0) ∧ W.cell? ⟨fb, 3, none⟩ = some (.int .u64 al) ∧ W.cell? ⟨fb, 4, none⟩ = some (.slice none 0 0)) => pending_any sa n c l ht W (hr.below h.1)
    have H15 := fun W (h : Below w6.heap.size w6 W ∧ W.cell? ⟨fb, 0, none⟩ = some (.int .u64 0) ∧ W.cell? ⟨fb, 1, none⟩ = some (.int .u64 0) ∧ W.cell? ⟨fb, 2, none⟩ = some (.int .i64 0) ∧ W.cell? ⟨fb, 3, none⟩ = some (.int .u64 al) ∧ W.cell? ⟨fb, 4, none⟩ = some (.slice none 0 0)) => rpending_any ra n rc l ht W (hr2.below h.1)
    have H16 := fun W (h : Below w6.heap.size w6 W ∧ W.cell? ⟨fb, 0, none⟩ = some (.int .u64 0) ∧ W.cell? ⟨fb, 1, none⟩ = some (.int .u64 0) ∧ W.cell? ⟨fb, 2, none⟩ = some (.int .i64 0) ∧ W.cell? ⟨fb, 3, none⟩ = some (.int .u64 al) ∧ W.cell? ⟨fb, 4, none⟩ = some (.slice none 0 0)) => may_any x hx sa n c l hwf ht W (hr.below h.1)
    have H17 := fun W (h : Below w6.heap.size w6 W ∧ W.cell? ⟨fb, 0, none⟩ = some (.int .u64 0) ∧ W.cell? ⟨fb, 1, none⟩ = some (.int .u64 0) ∧ W.cell? ⟨fb, 2, none⟩ = some (.int .i64 0) ∧ W.cell? ⟨fb, 3, none⟩ = some (.int .u64 al) ∧ W.cell? ⟨fb, 4, none⟩ = some (.slice none 0 0)) => rmay_any x hx ra n rc l hwf ht W (hr2.below h.1)
    have H18 := fun W (h : Below w6.heap.size w6 W ∧ W.cell? ⟨fb, 0, none⟩ = some (.int .u64 0) ∧ W.cell? ⟨fb, 1, none⟩ = some (.int .u64 0) ∧ W.cell? ⟨fb, 2, none⟩ = some (.int .i64 0) ∧ W.cell? ⟨fb, 3, none⟩ = some (.int .u64 al) ∧ W.cell? ⟨fb, 4, none⟩ = some (.slice none 0 0)) => next_any sa n c l hwf W (hr.below h.1)
    have H19 := fun W (h : Below w6.heap.size w6 W ∧ W.cell? ⟨fb, 0, none⟩ = some (.int .u64 0) ∧ W.cell? ⟨fb, 1, none⟩ = some (.int .u64 0) ∧ W.cell? ⟨fb, 2, none⟩ = some (.int .i64 0) ∧ W.cell? ⟨fb, 3, none⟩ = some (.int .u64 al) ∧ W.cell? ⟨fb, 4, none⟩ = some (.slice none 0 0)) => rnext_any ra n rc l hwf W (hr2.below h.1)
    have HV := Lib.hid (fun a n c a' c' l W (h : RdV W a n c l) (h' : RdV W a' n c' l) => views_any a a' n c c' l W h h')
    unfold vwA at H11 H12
    generalize lastL l = la at *
    generalize pendL l = pl at *
    generalize mayB x l = mb at *
    generalize nextL l = nx at *
    replace H11 := Lib.hid H11
    replace H12 := Lib.hid H12
    replace H14 := Lib.hid H14
    replace H15 := Lib.hid H15
    replace H16 := Lib.hid H16
    replace H17 := Lib.hid H17
    replace H18 := Lib.hid H18
    replace H19 := Lib.hid H19
    have hSall : Hid (∀ W, Below w6.heap.size w6 W → Below w6.heap.size w6 W ∧ W.cell? ⟨fb, 0, none⟩ = some (.int .u64 0) ∧ W.cell? ⟨fb, 1, none⟩ = some (.int .u64 0) ∧ W.cell? ⟨fb, 2, none⟩ = some (.int .i64 0) ∧ W.cell? ⟨fb, 3, none⟩ = some (.int .u64 al) ∧ W.cell? ⟨fb, 4, none⟩ = some (.slice none 0 0)) := fun W h => ⟨h, (hS.below h hS.lt).cell rfl, (hS.below h hS.lt).cell rfl, (hS.below h hS.lt).cell rfl, (hS.below h hS.lt).cell rfl, (hS.below h hS.lt).cell rfl⟩
    have hb0 : Below w6.heap.size w6 w6 := Below.refl _ _
    clear hr hr2 hS hf hff ht hln hn hwf hz
    go_region_held3 (fun W => Below w6.heap.size w6 W ∧ W.cell? ⟨fb, 0, none⟩ = some (.int .u64 0) ∧ W.cell? ⟨fb, 1, none⟩ = some (.int .u64 0) ∧ W.cell? ⟨fb, 2, none⟩ = some (.int .i64 0) ∧ W.cell? ⟨fb, 3, none⟩ = some (.int .u64 al) ∧ W.cell? ⟨fb, 4, none⟩ = some (.slice none 0 0))
      (first | assumption | exact hSall.out _ hb0.drew | exact hSall.out _ (belS (And.left (by assumption)) (by assumption)))
      (first
        | (go_at_call 11; refine (H11.out _ (by assumption)).mono ?_; rintro e w' ⟨rfl, hb⟩)
        | (go_at_call 12; refine (H12.out _ (by assumption)).mono ?_; rintro e w' ⟨rfl, hb⟩)
        | (go_at_call 14; refine (H14.out _ (by assumption)).mono ?_; rintro e wA ⟨vA, rfl, hoA, hbA⟩; obtain ⟨aA, cA, rfl, hpA⟩ := Rd.own hoA; have hpA : RdV wA aA pl.length cA pl := hpA)
        | (go_at_call 15; refine (H15.out _ (by assumption)).mono ?_; rintro e wB ⟨vB, rfl, hoB, hbB⟩; obtain ⟨aB, cB, rfl, hpB⟩ := Rd.own hoB; have hpB : RdV wB aB pl.length cB pl := hpB)
        | (go_at_call 13; refine (HV.out _ _ _ _ _ pl _ (by first | exact hpA | exact hpA.below hbB (Nat.le_refl _)) (by first | exact hpB | exact hpB.below hbA (Nat.le_refl _))).mono ?_; rintro e w' ⟨rfl, hb⟩)
        | (go_at_call 16; refine (H16.out _ (by assumption)).mono ?_; rintro e w' ⟨rfl, hb⟩)
        | (go_at_call 17; refine (H17.out _ (by assumption)).mono ?_; rintro e w' ⟨rfl, hb⟩)
        | (go_at_call 18; refine (H18.out _ (by assumption)).mono ?_; rintro e w' ⟨rfl, hb⟩)
        | (go_at_call 19; refine (H19.out _ (by assumption)).mono ?_; rintro e w' ⟨rfl, hb⟩)
        | (go_at_call 20; refine (HAll.out _).mono ?_; rintro e w' ⟨rfl, rfl⟩))
    all_goals
      go_wp2
      go_ret
      exact ⟨ret_bool (by simp), belS E (And.left (by assumption))⟩
theorem votes_law (a : Option Addr) (n c : Nat) (x y : Int) (w : World) (hl : ∃ l, RSl RRec 5 w a n c l) (hx : (Lit.int .u64 x).wf = true) (_ : (Lit.int .i64 y).wf = true) :
    Calls Try.prog 3 #[.slice a n c, .int .u64 x, .int .i64 y] w fun e w' => e = .returned (.bool true) ∧ Below w.heap.size w w' := by
  obtain ⟨l, hl⟩ := hl
  obtain ⟨h1, h2, h3⟩ := hl.recs
  obtain ⟨x, rfl, gx⟩ := u64n hx
  exact votes_law0 a n c x y _ gx h2 h3 w h1
end Go.Proofs.Ytnpinkcadkkeoaa
