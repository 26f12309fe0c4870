/- walks of the reference's ear: other, Of, Reached -/
import Derived.Test.YtpnmhlcbmbpfdaaDoorHeardN
import Derived.Test.YtpnmhlcbmbpfdaaDoorHeardC
namespace Go.Proofs.YtpnmhlcbmbpfdaaDoor
open Go.RowKit Go.Sort

set_option maxHeartbeats 1600000 in
set_option maxRecDepth 100000 in
theorem other_any (me n tm now : Int) (a : Option Addr) (c cp : Nat) (p : Int) (w : World) :
    Calls Tryd.prog 28 #[.agg #[.int .i64 me, .int .i64 n, .int .i64 tm, .int .i64 now, .slice a c cp], .int .i64 p] w fun e w' => e = .returned (.bool (other me n p)) ∧ Below w.heap.size w w' := by
  have hA := BlkAt.new w 31 #[.int .i64 me, .int .i64 n, .int .i64 tm, .int .i64 now, .slice a c cp]
  have hb : Below w.heap.size w (w.alloc (.cells #[.int .i64 me, .int .i64 n, .int .i64 tm, .int .i64 now, .slice a c cp] 31)) := (Below.refl _ _).alloc (Nat.le_refl _) _
  have HO := Lib.hid (show other me n p = (decide (0 ≤ p) && (decide (p < n) && (decide (p < 64) && !decide (p = me)))) from rfl)
  by_cases h0 : 0 ≤ p
  · by_cases h1 : p < n
    · by_cases h2 : p < 64
      · by_cases h3 : p = me
        all_goals
          go_enter Tryd.func28, Tryd.ntmps28
          go_wp2
          go_ret
          exact ⟨ret_bool (by rw [HO.out]; first | (simp [h0, h1, h2, h3]; done) | (simp [h0, h1, h2, h3]; intros; omega)), hb⟩
      · go_enter Tryd.func28, Tryd.ntmps28
        go_wp2
        go_ret
        exact ⟨ret_bool (by rw [HO.out]; first | (simp [h0, h1, h2]; done) | (simp [h0, h1, h2]; intros; omega)), hb⟩
    · go_enter Tryd.func28, Tryd.ntmps28
      go_wp2
      go_ret
      exact ⟨ret_bool (by rw [HO.out]; first | (simp [h0, h1]; done) | (simp [h0, h1]; intros; omega)), hb⟩
  · go_enter Tryd.func28, Tryd.ntmps28
    go_wp2
    go_ret
    exact ⟨ret_bool (by rw [HO.out]; first | (simp [h0]; done) | (simp [h0]; intros; omega)), hb⟩
/-- The cells of one that was said. -/
theorem Rd.sd9 {w : World} {b off n c : Nat} {l : List Sd} (h : Rd w 9 (some ⟨b, off, none⟩) n c (l.flatMap sdF)) (k : Nat) (hk : k < l.length) :
    w.cell? ⟨b, off + k * 9, none⟩ = some (.int .i64 l[k].p) ∧ w.cell? ⟨b, off + k * 9 + 1, none⟩ = some (.int .i64 l[k].at_) ∧ w.cell? ⟨b, off + k * 9 + 2, none⟩ = some (.bool l[k].beat) ∧ w.cell? ⟨b, off + k * 9 + 3, none⟩ = some (.bool l[k].gone) ∧ w.cell? ⟨b, off + k * 9 + 4, none⟩ = some (.int .u64 l[k].b.ce) ∧ w.cell? ⟨b, off + k * 9 + 5, none⟩ = some (.int .i64 l[k].b.cr) ∧ w.cell? ⟨b, off + k * 9 + 6, none⟩ = some (.int .u64 l[k].b.pe) ∧ w.cell? ⟨b, off + k * 9 + 7, none⟩ = some (.int .i64 l[k].b.pr) ∧ w.cell? ⟨b, off + k * 9 + 8, none⟩ = some (.int .u64 l[k].b.ep) := by
  have hj : ∀ j v, (sdF l[k])[j]? = some v → j < 9 → w.cell? ⟨b, off + k * 9 + j, none⟩ = some v := fun j v hv h8 => by
    have h0 := flatMap_get (f := sdF) (sz := 9) (fun _ => rfl) l k j h8
    rw [List.getElem?_eq_getElem hk] at h0
    rw [Nat.add_assoc]; exact Rd.at h (h0.trans hv)
  exact ⟨hj 0 _ rfl (by decide), hj 1 _ rfl (by decide), hj 2 _ rfl (by decide), hj 3 _ rfl (by decide), hj 4 _ rfl (by decide), hj 5 _ rfl (by decide), hj 6 _ rfl (by decide), hj 7 _ rfl (by decide), hj 8 _ rfl (by decide)⟩
theorem Rd.sdLen {w : World} {a : Option Addr} {n c : Nat} {l : List Sd} (h : Rd w 9 a n c (l.flatMap sdF)) : l.length = n := by
  have := Rd.length_eq h
  rw [flatMap_len (f := sdF) (sz := 9) (fun _ => rfl)] at this
  omega
theorem drop_mem {l : List Sd} {k : Nat} (hk : k < l.length) {Q : Sd → Prop} (h0 : Q l[k]) (h : ∀ e ∈ l.drop (k + 1), Q e) : ∀ e ∈ l.drop k, Q e := by
  rw [List.drop_eq_getElem_cons hk]
  intro e he
  rcases List.mem_cons.1 he with rfl | he
  · exact h0
  · exact h e he
set_option maxHeartbeats 3200000 in
set_option maxRecDepth 100000 in
theorem reached_any (me n tm : Int) (now : Nat) (a : Option Addr) (c cp : Nat) (all : List Sd) (p : Int) (hnow : now ≤ 1000000) (hat : ∀ e ∈ all, e.at_ ≤ 1000000) (w : World) (hr : Rd w 9 a c cp (all.flatMap sdF)) :
    Calls Tryd.prog 31 #[.agg #[.int .i64 me, .int .i64 n, .int .i64 tm, .int .i64 now, .slice a c cp], .int .i64 p] w fun e w' => e = .returned (.bool (reachedB tm now (ent p all))) ∧ Below w.heap.size w w' := by
  have hl := Lib.hid hr.sdLen
  have hmx := Rd.le_max hr
  unfold maxLen at hmx
  have hA := BlkAt.new w 31 #[.int .i64 me, .int .i64 n, .int .i64 tm, .int .i64 now, .slice a c cp]
  have hb : Below w.heap.size w (w.alloc (.cells #[.int .i64 me, .int .i64 n, .int .i64 tm, .int .i64 now, .slice a c cp] 31)) := (Below.refl _ _).alloc (Nat.le_refl _) _
  have hr1 := Rd.below hr hb (Nat.le_refl _)
  clear hr
  go_enter Tryd.func31, Tryd.ntmps31
  go_wp2
  generalize w.alloc _ = w1 at *
  have e2 : w1.cell? ⟨w.heap.size, 2, none⟩ = some (.int .i64 tm) := hA.cell rfl
  have e3 : w1.cell? ⟨w.heap.size, 3, none⟩ = some (.int .i64 now) := hA.cell rfl
  have e4 : w1.cell? ⟨w.heap.size, 4, none⟩ = some (.slice a c cp) := hA.cell rfl
  go_loop [5] (fun i => ∃ k : Nat, k ≤ c ∧ i = .int .i64 ((k : Int) - 1) ∧ Hid (∀ e ∈ all.drop k, e.p = p → e.gone = true)) (fun i => ((intOf i) + 1).toNat)
  case atStart => exact ⟨c, Nat.le_refl _, rfl, (fun e he => by rw [List.drop_of_length_le (by have := hl.out; omega)] at he; cases he)⟩
  case round =>
    obtain ⟨k, hk, rfl, hno⟩ := hrel
    cases k with
    | zero =>
      have hF := Lib.hid (show reachedB tm now (ent p all) = false from by rw [reachedB, ent_never (all := all) (fun e he => hno.out e (by simpa using he))]; rfl)
      go_wp2
      go_ret
      exact ⟨ret_bool hF.out.symm, hb⟩
    | succ k =>
      have hkl : k < all.length := by rw [hl.out]; exact hk
      obtain ⟨bs, off, rfl, _⟩ := Rd.addr hr1 (by omega)
      obtain ⟨c0, c1, c2, c3, _⟩ := Rd.sd9 hr1 k hkl
      have hki : ((k + 1 : Nat) : Int) - 1 = k := by omega
      rw [hki]
      have hkI : (k : Int) < c := by omega
      have hev := Lib.hid (fun h1 h2 => ent_ever (p := p) hkl h1 h2 hno.out)
      have hnx := Lib.hid (fun h0 => drop_mem (Q := fun e => e.p = p → e.gone = true) hkl h0 hno.out)
      have hat' := hat _ (List.getElem_mem hkl)
      generalize all[k] = x at *
      obtain ⟨xp, xa, xb, xg, xx⟩ := x
      simp only at c0 c1 c2 c3 hev hnx hat'
      by_cases hp : xp = p
      · subst hp
        cases xg with
        | true =>
          have hN := Lib.hid (hnx.out (fun _ => rfl))
          clear hnx hev
          go_wp2
          go_round
          case rel => exact ⟨k, by omega, by first | rfl | go_num, hN.out⟩
          case measure => simp [intOf] <;> omega
        | false =>
          obtain ⟨h1, h2⟩ := hev.out rfl rfl
          have hF := Lib.hid (show reachedB tm now (ent xp all) = decide ((now : Int) - xa ≤ tm) from by rw [reachedB, h1, h2, Bool.true_and])
          have hxa : (xa : Int) ≤ 1000000 := by omega
          have hnI : (now : Int) ≤ 1000000 := by omega
          clear hnx hev h1 h2
          go_wp2
          go_quiet (fail)
          go_wp2
          go_ret
          exact ⟨ret_bool (by rw [hF.out]), belN hb _⟩
      · have hN := Lib.hid (hnx.out (fun h => absurd h hp))
        clear hnx hev
        go_wp2
        go_round
        case rel => exact ⟨k, by omega, by first | rfl | go_num, hN.out⟩
        case measure => simp [intOf] <;> omega
theorem results_row1 {P : Program} {fn : Func} {p q : Tmp} {ty : TypeId} (h : fn.results = #[.cell p ty, .tmp q]) (tmps : Array Value) (w : World) (g : Nat) (t : TypeId) (cs : Array Value) (fr : Nat × Nat) (d : TypeDesc)
    (hp : tmps.getD p undef = .pointer (some ⟨g, 0, none⟩)) (hg : w.heap[g]? = some (.cells cs t fr))
    (hu : P.underlying ty = some d) (hd : (match d with | .struct _ | .array _ _ => true | _ => false) = true) (hi : (P.info? ty).map (·.size) = some cs.size) :
    (results fn tmps).run P w = .ok (.tuple #[.agg cs, tmps.getD q undef]) w := by
  have hp' : tmps[p]?.getD undef = .pointer (some ⟨g, 0, none⟩) := by simpa using hp
  simp [results, h, hp', asAddr, run_loadVar_row w g t ty cs fr d hg hu hd hi, Result.andThen]
theorem Tryd.sdZ : (Tryd.prog.info? 39).map (·.zero) = some (some (.agg #[.int .i64 Sd.zero.p, .int .i64 Sd.zero.at_, .bool Sd.zero.beat, .bool Sd.zero.gone, .int .u64 Sd.zero.b.ce, .int .i64 Sd.zero.b.cr, .int .u64 Sd.zero.b.pe, .int .i64 Sd.zero.b.pr, .int .u64 Sd.zero.b.ep])) := by kernel_rfl
theorem Tryd.sdI (x : Sd) : (Tryd.prog.info? 39).map (·.size) = some (#[.int .i64 x.p, .int .i64 x.at_, .bool x.beat, .bool x.gone, .int .u64 x.b.ce, .int .i64 x.b.cr, .int .u64 x.b.pe, .int .i64 x.b.pr, .int .u64 x.b.ep] : Array Value).size := by show _ = some 9; kernel_rfl
set_option maxHeartbeats 3200000 in
set_option maxRecDepth 100000 in
theorem rof_any (me n tm now : Int) (a : Option Addr) (c cp : Nat) (all : List Sd) (p : Int) (ob : Bt) (ok : Bool) (hoe : (ent p all).ofE = (ob, ok)) (w : World) (hr : Rd w 9 a c cp (all.flatMap sdF)) :
    Calls Tryd.prog 15 #[.agg #[.int .i64 me, .int .i64 n, .int .i64 tm, .int .i64 now, .slice a c cp], .int .i64 p] w fun e w' => ∃ s : Sd, e = .returned (.tuple #[.agg #[.int .i64 s.p, .int .i64 s.at_, .bool s.beat, .bool s.gone, .int .u64 s.b.ce, .int .i64 s.b.cr, .int .u64 s.b.pe, .int .i64 s.b.pr, .int .u64 s.b.ep], .bool ok]) ∧ Hid (s.b = ob) ∧ Below w.heap.size w w' := by
  have hl := Lib.hid hr.sdLen
  replace hoe := Lib.hid hoe
  have hmx := Rd.le_max hr
  unfold maxLen at hmx
  have hb : Below w.heap.size w ((w.alloc (.cells #[.int .i64 me, .int .i64 n, .int .i64 tm, .int .i64 now, .slice a c cp] 31)).alloc (.cells #[.int .i64 Sd.zero.p, .int .i64 Sd.zero.at_, .bool Sd.zero.beat, .bool Sd.zero.gone, .int .u64 Sd.zero.b.ce, .int .i64 Sd.zero.b.cr, .int .u64 Sd.zero.b.pe, .int .i64 Sd.zero.b.pr, .int .u64 Sd.zero.b.ep] 39)) := ((Below.refl _ _).alloc (Nat.le_refl _) _).alloc (by simp) _
  have hA : BlkAt ((w.alloc (.cells #[.int .i64 me, .int .i64 n, .int .i64 tm, .int .i64 now, .slice a c cp] 31)).alloc (.cells #[.int .i64 Sd.zero.p, .int .i64 Sd.zero.at_, .bool Sd.zero.beat, .bool Sd.zero.gone, .int .u64 Sd.zero.b.ce, .int .i64 Sd.zero.b.cr, .int .u64 Sd.zero.b.pe, .int .i64 Sd.zero.b.pr, .int .u64 Sd.zero.b.ep] 39)) w.heap.size 31 #[.int .i64 me, .int .i64 n, .int .i64 tm, .int .i64 now, .slice a c cp] := BlkAt.alloc (BlkAt.new w _ _) _
  have hB : BlkAt ((w.alloc (.cells #[.int .i64 me, .int .i64 n, .int .i64 tm, .int .i64 now, .slice a c cp] 31)).alloc (.cells #[.int .i64 Sd.zero.p, .int .i64 Sd.zero.at_, .bool Sd.zero.beat, .bool Sd.zero.gone, .int .u64 Sd.zero.b.ce, .int .i64 Sd.zero.b.cr, .int .u64 Sd.zero.b.pe, .int .i64 Sd.zero.b.pr, .int .u64 Sd.zero.b.ep] 39)) (w.heap.size + 1) 39 #[.int .i64 Sd.zero.p, .int .i64 Sd.zero.at_, .bool Sd.zero.beat, .bool Sd.zero.gone, .int .u64 Sd.zero.b.ce, .int .i64 Sd.zero.b.cr, .int .u64 Sd.zero.b.pe, .int .i64 Sd.zero.b.pr, .int .u64 Sd.zero.b.ep] := by simpa using BlkAt.new (w.alloc (.cells #[.int .i64 me, .int .i64 n, .int .i64 tm, .int .i64 now, .slice a c cp] 31)) 39 #[.int .i64 Sd.zero.p, .int .i64 Sd.zero.at_, .bool Sd.zero.beat, .bool Sd.zero.gone, .int .u64 Sd.zero.b.ce, .int .i64 Sd.zero.b.cr, .int .u64 Sd.zero.b.pe, .int .i64 Sd.zero.b.pr, .int .u64 Sd.zero.b.ep]
  have hr1 := Rd.below hr hb (Nat.le_refl _)
  clear hr
  go_enter Tryd.func15, Tryd.ntmps15
  go_wp2_with (refine wpList_blk_alloc rfl rfl Tryd.sdZ (w.heap.size + 1) (by simp) ?_; generalize (w.alloc _).alloc _ = w1 at *; have e4 : w1.cell? ⟨w.heap.size, 4, none⟩ = some (.slice a c cp) := hA.cell rfl)
  have hb := Lib.hid hb
  go_loop [6] (fun i => ∃ k : Nat, k ≤ c ∧ i = .int .i64 ((k : Int) - 1) ∧ Hid (∀ e ∈ all.drop k, e.p = p → e.gone = false ∧ e.beat = false)) (fun i => ((intOf i) + 1).toNat)
  case atStart => exact ⟨c, Nat.le_refl _, rfl, (fun e he => by rw [List.drop_of_length_le (by have := hl.out; omega)] at he; cases he)⟩
  case round =>
    obtain ⟨k, hk, rfl, hno⟩ := hrel
    cases k with
    | zero =>
      have hF := Lib.hid (ent_of_none (p := p) (all := all) (fun e he => hno.out e (by simpa using he)))
      go_wp2_with (refine wpList_blk_store rfl (.tmp 4) (.tmp 53) rfl rfl rfl hB (Tryd.sdI .zero) rfl (by simp [Value.oneCell']) ?_; intro w4 hB4 hK4 hsz4)
      refine bodyPost_ret (results_row1 rfl _ _ (w.heap.size + 1) 39 _ (0, 0) _ rfl hB4 Tryd.underlying39 rfl (Tryd.sdI .zero)) rfl ?_
      obtain ⟨rfl, rfl⟩ := Prod.mk.inj (hoe.out.symm.trans hF.out)
      exact ⟨.zero, rfl, rfl, Kp.below hb.out hK4 (by omega) hb.out.size⟩
    | succ k =>
      have hkl : k < all.length := by rw [hl.out]; exact hk
      obtain ⟨bs, off, rfl, _⟩ := Rd.addr hr1 (by omega)
      obtain ⟨c0, c1, c2, c3, c4, c5, c6, c7, c8⟩ := Rd.sd9 hr1 k hkl
      have hki : ((k + 1 : Nat) : Int) - 1 = k := by omega
      rw [hki]
      have hkI : (k : Int) < c := by omega
      have hgo := Lib.hid (fun h1 h2 => ent_of_gone (p := p) hkl h1 h2 hno.out)
      have hbe := Lib.hid (fun h1 h2 h3 => ent_of_beat (p := p) hkl h1 h2 h3 hno.out)
      have hnx := Lib.hid (fun h0 => drop_mem (Q := fun e => e.p = p → e.gone = false ∧ e.beat = false) hkl h0 hno.out)
      generalize all[k] = x at *
      obtain ⟨xp, xa, xb, xg, xx⟩ := x
      simp only at c0 c1 c2 c3 c4 c5 c6 c7 c8 hgo hbe hnx
      by_cases hp : xp = p
      · subst hp
        cases xg with
        | true =>
          have hF := Lib.hid (hgo.out rfl rfl)
          clear hnx hgo hbe
          go_wp2_with (refine wpList_blk_store rfl (.tmp 4) (.tmp 31) rfl rfl rfl hB (Tryd.sdI .zero) rfl (by simp [Value.oneCell']) ?_; intro w4 hB4 hK4 hsz4)
          refine bodyPost_ret (results_row1 rfl _ _ (w.heap.size + 1) 39 _ (0, 0) _ rfl hB4 Tryd.underlying39 rfl (Tryd.sdI .zero)) rfl ?_
          obtain ⟨rfl, rfl⟩ := Prod.mk.inj (hoe.out.symm.trans hF.out)
          exact ⟨.zero, rfl, rfl, Kp.below hb.out hK4 (by omega) hb.out.size⟩
        | false =>
          cases xb with
          | true =>
            have hF := Lib.hid (hbe.out rfl rfl rfl)
            clear hnx hgo hbe
            go_wp2_with (refine wpList_blk_store rfl (.tmp 4) (.tmp 52) rfl rfl rfl hB (Tryd.sdI .zero) rfl (by simp [Value.oneCell']) ?_; intro w4 hB4 hK4 hsz4)
            refine bodyPost_ret (results_row1 rfl _ _ (w.heap.size + 1) 39 _ (0, 0) _ rfl hB4 Tryd.underlying39 rfl (Tryd.sdI .zero)) rfl ?_
            obtain ⟨rfl, rfl⟩ := Prod.mk.inj (hoe.out.symm.trans hF.out)
            exact ⟨⟨xp, xa, true, false, ob⟩, rfl, rfl, Kp.below hb.out hK4 (by omega) hb.out.size⟩
          | false =>
            have hN := Lib.hid (hnx.out (fun _ => ⟨rfl, rfl⟩))
            clear hnx hgo hbe
            go_wp2
            go_round
            case rel => exact ⟨k, by omega, by first | rfl | go_num, hN.out⟩
            case measure => simp [intOf] <;> omega
      · have hN := Lib.hid (hnx.out (fun h => absurd h hp))
        clear hnx hgo hbe
        go_wp2
        go_round
        case rel => exact ⟨k, by omega, by first | rfl | go_num, hN.out⟩
        case measure => simp [intOf] <;> omega
end Go.Proofs.YtpnmhlcbmbpfdaaDoor
