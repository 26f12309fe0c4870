/- gather: the reference's size, Told, Done, Of -/
import Derived.Test.YtlgabjffnjciaaaDoorGatX
import Derived.Test.YtlgabjffnjciaaaDoorGatQ
namespace Go.Proofs.YtlgabjffnjciaaaDoor
set_option linter.unusedSimpArgs false
set_option linter.unusedVariables false
open Go.RowKit Go.Sort
/-- The reference's attempt as a value. -/
def rfA (v : AtV) (a : Option Addr) (n c : Nat) : Array Value := #[.int .u64 v.ep, .int .i64 v.rp, .int .u64 v.mem, .slice a n c, .int .u64 v.rdy]
theorem Tryd.rfI (v : AtV) (a : Option Addr) (n c : Nat) : (Tryd.prog.info? 53).map (·.size) = some (rfA v a n c).size := by show _ = some 5; kernel_rfl
theorem Tryd.rfZ : (Tryd.prog.info? 53).map (·.zero) = some (some (.agg #[.int .u64 0, .int .i64 0, .int .u64 0, .slice none 0 0, .int .u64 0])) := by kernel_rfl
theorem rfA_one (v : AtV) (a : Option Addr) (n c : Nat) : (rfA v a n c).all (·.oneCell') = true := by simp [rfA, Value.oneCell']
theorem Tryd.bldX0 : Tryd.prog.built 43 [] = some #[.int .i64 0, .int .u64 0, .int .i64 0, .slice none 0 0, .int .u64 0, .int .i64 0] := by kernel_rfl
theorem results_row1 {P : Program} {fn : Func} {p q : Tmp} {ty : TypeId} (h : fn.results = #[.cell p ty, .tmp q]) (tmps : Array Value) (w : World) (g : Nat) (t : TypeId) (cs : Array Value) (fr : Nat × Nat) (d : TypeDesc)
    (hp : tmps.getD p undef = .pointer (some ⟨g, 0, none⟩)) (hg : w.heap[g]? = some (.cells cs t fr))
    (hu : P.underlying ty = some d) (hd : (match d with | .struct _ | .array _ _ => true | _ => false) = true) (hi : (P.info? ty).map (·.size) = some cs.size) :
    (results fn tmps).run P w = .ok (.tuple #[.agg cs, tmps.getD q undef]) w := by
  have hp' : tmps[p]?.getD undef = .pointer (some ⟨g, 0, none⟩) := by simpa using hp
  simp [results, h, hp', asAddr, run_loadVar_row w g t ty cs fr d hg hu hd hi, Result.andThen]
/-- The reference's attempt, its exchanges as they lie. -/
structure Rf (w : World) (v : AtV) (a : Option Addr) (n c : Nat) (xs : List Xc) : Prop where
  rd : RdX w a n c xs
  val : vX xs = v.xs
  inv : VInv v
theorem Rf.below {w w' : World} {v : AtV} {a : Option Addr} {n c : Nat} {xs : List Xc} (h : Rf w v a n c xs) (hb : Below w.heap.size w w') : Rf w' v a n c xs := ⟨h.rd.below hb, h.val, h.inv⟩
theorem Rf.len {w : World} {v : AtV} {a : Option Addr} {n c : Nat} {xs : List Xc} (h : Rf w v a n c xs) : v.xs.length = n := by rw [← h.val, vX_len]; exact h.rd.len
def cN (x p : Nat) : Nat := ((List.range p).filter fun i => x.testBit i).length
theorem cN_succ (x p : Nat) : cN x (p + 1) = cN x p + (x.testBit p).toNat := by
  unfold cN
  rw [List.range_succ, List.filter_append, List.length_append]
  cases h : x.testBit p <;> simp [h]
theorem cN_le (x p : Nat) : cN x p ≤ p := by
  have := List.length_filter_le (fun i => x.testBit i) (List.range p)
  rw [List.length_range] at this
  exact this
theorem cN_64 (x : Nat) : cN x 64 = cardN x := by rw [← memN_len]; rfl
set_option maxHeartbeats 800000 in
theorem rsize_any (x : Nat) (hx : x < 18446744073709551616) (w : World) :
    Calls Tryd.prog 48 #[.int .u64 x] w fun e w' => e = .returned (.int .i64 (cardN x)) ∧ w = w' := by
  have HM := Lib.hid (fun p t ht W => member_any x p t ht hx W)
  have h64 := Lib.hid (cN_64 x)
  go_enter Tryd.func48, Tryd.ntmps48
  go_wp2
  go_loop [3, 4] (fun nv pv => ∃ p : Nat, p ≤ 64 ∧ pv = .int .i64 p ∧ nv = .int .i64 (cN x p)) (fun _ pv => 64 - (RowKit.intOf pv).toNat)
  case atStart => exact ⟨0, by omega, rfl, rfl⟩
  case round =>
    obtain ⟨p, hp, rfl, rfl⟩ := hrel
    have hle := cN_le x p
    by_cases hlt : p < 64
    · have hI : (p : Int) < 64 := by omega
      have hs := cN_succ x p
      cases hb : x.testBit p with
      | true =>
        rw [hb] at hs
        have hH := Lib.hid (show true = hasB x (p : Int) from by rw [hasB_nat hlt, hb])
        clear hb
        go_wp2_with fail
        refine (HM.out _ true hH.out _).mono ?_
        rintro e w2 ⟨rfl, rfl⟩
        replace hs := Lib.hid (show cN x (p + 1) = cN x p + 1 from hs)
        go_wp2
        go_round
        case rel => exact ⟨p + 1, by omega, by go_num, by rw [hs.out]; go_num⟩
        case measure => simp [RowKit.intOf]; omega
      | false =>
        rw [hb] at hs
        have hH := Lib.hid (show false = hasB x (p : Int) from by rw [hasB_nat hlt, hb])
        clear hb
        go_wp2_with fail
        refine (HM.out _ false hH.out _).mono ?_
        rintro e w2 ⟨rfl, rfl⟩
        replace hs := Lib.hid (show cN x (p + 1) = cN x p from hs)
        go_wp2
        go_round
        case rel => exact ⟨p + 1, by omega, by go_num, by rw [hs.out]⟩
        case measure => simp [RowKit.intOf]; omega
    · obtain rfl : p = 64 := by omega
      go_wp2
      go_ret
      exact ⟨by rw [h64.out]; rfl, rfl⟩
section
variable {w : World} {v : AtV} {a : Option Addr} {n c : Nat} {xs : List Xc}
set_option maxHeartbeats 800000 in
theorem rtold_any (t : Bool) (ht : t = toldV v) (h : Rf w v a n c xs) :
    Calls Tryd.prog 26 #[.agg (rfA v a n c)] w fun e w' => e = .returned (.bool t) ∧ Below w.heap.size w w' := by
  have hB := BlkAt.new w 53 (rfA v a n c)
  have hb1 := alloc_below w (.cells (rfA v a n c) 53)
  obtain ⟨c0, c1, c2, c3, c4⟩ := blk5 hB
  have hmm := h.inv.mem
  have hl := h.len
  obtain ⟨cd, hcd⟩ : ∃ z, z = cardN v.mem := ⟨_, rfl⟩
  have e1 : ((n : Int) == (cd : Int)) = t := by
    rw [ht, toldV, hl, ← hcd]
    by_cases h : n = cd
    · rw [decide_eq_true h, beq_iff_eq]; omega
    · rw [decide_eq_false h, beq_eq_false_iff_ne]; omega
  have e2 : (n == cd) = t := by
    rw [← e1]
    by_cases h : n = cd
    · subst h; simp
    · rw [beq_eq_false_iff_ne.2 h]; symm; rw [beq_eq_false_iff_ne]; omega
  clear ht hl h
  go_enter Tryd.func26, Tryd.ntmps26
  go_wp2_with (refine wpList_blk_box rfl (.tmp 0) rfl rfl w.heap.size rfl ?_)
  generalize w.alloc _ = w1 at *
  replace hb1 := Lib.hid hb1
  have k2 := cell_regrown c2
  have k3 := cell_regrown c3
  have kS := fun d os => Calls.regrown_of (pureB (rsize_any v.mem hmm (grow (redrawn w1 d) os)))
  rw [← hcd] at kS
  replace hcd := Lib.hid hcd
  clear c0 c1 c2 c3 c4 hB
  refine wp_region_quiet_below (by kernel_rfl) (by kernel_rfl) ?_
  repeat (go_big_quiet_step (first | (with_reducible exact kS _ _)))
  refine wpQuiet_nil ?_; intro w4' hw'; obtain ⟨⟨dq, osq⟩, hw''⟩ := hw'; subst hw''
  go_wp2
  go_ret
  exact ⟨rfl, belS hb1.out (below_regrown _ _ _)⟩
set_option maxHeartbeats 800000 in
theorem rdone_any (t : Bool) (ht : t = doneV v) (h : Rf w v a n c xs) :
    Calls Tryd.prog 27 #[.agg (rfA v a n c)] w fun e w' => e = .returned (.bool t) ∧ Below w.heap.size w w' := by
  have hB := BlkAt.new w 53 (rfA v a n c)
  have hb1 := Lib.hid (alloc_below w (.cells (rfA v a n c) 53))
  obtain ⟨tt, htt⟩ : ∃ z, z = toldV v := ⟨_, rfl⟩
  have HT := Lib.hid (fun W (hb : Below w.heap.size w W) => rtold_any tt htt (h.below hb))
  have e1 : tt = true → ((v.rdy : Int) == (v.mem : Int)) = t := fun h => by
    rw [ht, doneV, ← htt, h, Bool.true_and]
    by_cases h : v.rdy = v.mem
    · rw [decide_eq_true h, beq_iff_eq]; omega
    · rw [decide_eq_false h, beq_eq_false_iff_ne]; omega
  have e2 : tt = true → (v.rdy == v.mem) = t := fun h => by
    rw [← e1 h]
    by_cases h : v.rdy = v.mem
    · rw [h]; simp
    · rw [beq_eq_false_iff_ne.2 h]; symm; rw [beq_eq_false_iff_ne]; omega
  have e3 : tt = false → t = false := fun h => by rw [ht, doneV, ← htt, h]; rfl
  have hiR := Tryd.rfI v a n c
  clear ht htt h
  cases tt with
  | true =>
    replace e1 := e1 rfl
    replace e2 := e2 rfl
    clear e3
    go_enter Tryd.func27, Tryd.ntmps27
    go_wp2_with (first
      | (refine wpList_blk_box rfl (.tmp 0) rfl rfl w.heap.size rfl ?_)
      | (refine wpList_blk_load rfl (.tmp 1) rfl Tryd.underlying53 rfl rfl hB hiR ?_))
    refine (HT.out _ hb1.out).mono ?_
    rintro e w2 ⟨rfl, hb2⟩
    obtain ⟨c0, c1, c2, c3, c4⟩ := blk5 (hB.below hb2 hB.lt)
    go_wp2
    go_ret
    exact ⟨rfl, belS hb1.out hb2⟩
  | false =>
    obtain rfl := e3 rfl
    clear e1 e2 e3
    go_enter Tryd.func27, Tryd.ntmps27
    go_wp2_with (first
      | (refine wpList_blk_box rfl (.tmp 0) rfl rfl w.heap.size rfl ?_)
      | (refine wpList_blk_load rfl (.tmp 1) rfl Tryd.underlying53 rfl rfl hB hiR ?_))
    refine (HT.out _ hb1.out).mono ?_
    rintro e w2 ⟨rfl, hb2⟩
    go_wp2
    go_ret
    exact ⟨rfl, belS hb1.out hb2⟩
def ofX (xs : List Xc) (p : Int) : Option Xc := xs.find? fun x => decide (x.v.who = p)
set_option maxHeartbeats 1600000 in
theorem rof_any (p : Int) (h : Rf w v a n c xs) :
    Calls Tryd.prog 47 #[.agg (rfA v a n c), .int .i64 p] w fun e w' => (∃ x, ofX xs p = some x ∧ e = .returned (.tuple #[.agg (xcA x), .bool true]) ∨ ofX xs p = none ∧ e = .returned (.tuple #[.agg #[.int .i64 0, .int .u64 0, .int .i64 0, .slice none 0 0, .int .u64 0, .int .i64 0], .bool false])) ∧ Below w.heap.size w w' := by
  have hB : BlkAt ((w.alloc (.cells (rfA v a n c) 53)).alloc (.cells #[.int .i64 0, .int .u64 0, .int .i64 0, .slice none 0 0, .int .u64 0, .int .i64 0] 43)) w.heap.size 53 (rfA v a n c) := BlkAt.alloc (BlkAt.new w _ _) _
  have hE : BlkAt ((w.alloc (.cells (rfA v a n c) 53)).alloc (.cells #[.int .i64 0, .int .u64 0, .int .i64 0, .slice none 0 0, .int .u64 0, .int .i64 0] 43)) (w.heap.size + 1) 43 #[.int .i64 0, .int .u64 0, .int .i64 0, .slice none 0 0, .int .u64 0, .int .i64 0] := by simpa using BlkAt.new (w.alloc (.cells (rfA v a n c) 53)) 43 #[.int .i64 0, .int .u64 0, .int .i64 0, .slice none 0 0, .int .u64 0, .int .i64 0]
  have hb1 : Below w.heap.size w ((w.alloc (.cells (rfA v a n c) 53)).alloc (.cells #[.int .i64 0, .int .u64 0, .int .i64 0, .slice none 0 0, .int .u64 0, .int .i64 0] 43)) := ((Below.refl _ _).alloc (Nat.le_refl _) _).alloc (by simp) _
  have hX := Lib.hid (h.rd.below hb1)
  have hl := Lib.hid h.rd.len
  have hmx := h.rd.le_max
  have hsz : ((w.alloc (.cells (rfA v a n c) 53)).alloc (.cells #[.int .i64 0, .int .u64 0, .int .i64 0, .slice none 0 0, .int .u64 0, .int .i64 0] 43)).heap.size = w.heap.size + 2 := by simp
  clear h
  go_enter Tryd.func47, Tryd.ntmps47
  go_wp2_with (first
    | (refine wpList_blk_box rfl (.tmp 0) rfl rfl w.heap.size rfl ?_)
    | (refine wpList_blk_alloc rfl rfl Tryd.exZ (w.heap.size + 1) (by simp) ?_))
  generalize (w.alloc _).alloc _ = w1 at *
  obtain ⟨c0, c1, c2, c3, c4⟩ := blk5 hB
  go_loop [6] (fun iv => ∃ i : Nat, i ≤ n ∧ iv = .int .i64 i ∧ Hid (ofX xs p = (xs.drop i).find? fun x => decide (x.v.who = p))) (fun iv => n - (RowKit.intOf iv).toNat)
  case atStart => exact ⟨0, by omega, rfl, Lib.hid rfl⟩
  case round =>
    obtain ⟨i, hi, rfl, hf⟩ := hrel
    by_cases hlt : i < n
    · have hI : (i : Int) < n := by omega
      have hil : i < xs.length := by rw [hl.out]; exact hlt
      obtain ⟨g, off, rfl, hlg, ⟨d0, d1, d2, d3, d4, d5⟩, _⟩ := hX.out.at hil
      have hst := Lib.hid (show ofX xs p = if decide (xs[i].v.who = p) = true then some xs[i] else (xs.drop (i + 1)).find? fun x => decide (x.v.who = p) from by
        rw [hf.out, List.drop_eq_getElem_cons hil, List.find?_cons]
        split <;> simp_all)
      generalize xs[i] = x at *
      clear hf
      by_cases hw : x.v.who = p
      · have hz := Lib.hid (show ofX xs p = some x from by rw [hst.out, if_pos (decide_eq_true hw)])
        have e1 : (x.v.who == p) = true := by rw [beq_iff_eq]; exact hw
        have r0 : w1.rangeAt g (off + i * 6) (xcC x) := fun j u hj => by
          match j, hj with
          | 0, hj => simp [xcC] at hj; subst hj; exact d0
          | 1, hj => simp [xcC] at hj; subst hj; exact d1
          | 2, hj => simp [xcC] at hj; subst hj; exact d2
          | 3, hj => simp [xcC] at hj; subst hj; exact d3
          | 4, hj => simp [xcC] at hj; subst hj; exact d4
          | 5, hj => simp [xcC] at hj; subst hj; exact d5
        have hi6 := Tryd.exI x
        replace hw := Lib.hid hw
        clear hst d1 d2 d3 d4 d5
        go_wp2_with (first
          | (refine wpList_load_mid rfl _ (.tmp 25) rfl g (off + i * 6) rfl (xcC x) _ r0 Tryd.underlying43 rfl hi6 ?_)
          | (refine wpList_blk_store (cs := xcA x) rfl (.tmp 4) (.tmp 26) rfl rfl rfl hE hi6 rfl (xcA_one x) ?_; intro w4 hE4 hK4 hsz4))
        refine bodyPost_ret (results_row1 rfl _ _ (w.heap.size + 1) 43 _ (0, 0) _ rfl hE4 Tryd.underlying43 rfl hi6) rfl ⟨⟨x, .inl ⟨hz.out, rfl⟩⟩, ?_⟩
        exact Kp.below hb1 hK4 (by omega) (by omega)
      · have hz := Lib.hid (show ofX xs p = (xs.drop (i + 1)).find? fun x => decide (x.v.who = p) from by rw [hst.out, if_neg (by rw [decide_eq_false hw]; decide)])
        have e1 : (x.v.who == p) = false := by rw [beq_eq_false_iff_ne]; exact hw
        replace hw := Lib.hid hw
        clear hst d1 d2 d3 d4 d5
        go_wp2
        go_round
        case rel => exact ⟨i + 1, by omega, by go_num, hz⟩
        case measure => simp [RowKit.intOf]; omega
    · obtain rfl : i = n := by omega
      have hI : (i : Int) ≤ i := by omega
      have hz := Lib.hid (show ofX xs p = none from by rw [hf.out, List.drop_eq_nil_of_le (by rw [hl.out]; exact Nat.le_refl _)]; rfl)
      go_wp2_with (first
        | (refine wpList_blk_build rfl #[] rfl (by rw [List.map_toArray]; exact Tryd.bldX0) ?_)
        | (refine wpList_blk_store (cs := #[.int .i64 0, .int .u64 0, .int .i64 0, .slice none 0 0, .int .u64 0, .int .i64 0]) rfl (.tmp 4) (.tmp 27) rfl rfl rfl hE (by kernel_rfl) rfl (by simp [Value.oneCell']) ?_; intro w4 hE4 hK4 hsz4))
      refine bodyPost_ret (results_row1 rfl _ _ (w.heap.size + 1) 43 _ (0, 0) _ rfl hE4 Tryd.underlying43 rfl (by kernel_rfl)) rfl ⟨⟨⟨xz 0, none, 0, 0⟩, .inr ⟨hz.out, rfl⟩⟩, ?_⟩
      exact Kp.below hb1 hK4 (by omega) (by omega)
end
end Go.Proofs.YtlgabjffnjciaaaDoor
