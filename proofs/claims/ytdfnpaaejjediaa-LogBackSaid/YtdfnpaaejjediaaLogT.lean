/- log: the statements' helpers: rec, Stable, Views, Same, Stables -/
import Derived.Test.YtdfnpaaejjediaaLogQ
import Derived.Test.YtdfnpaaejjediaaPut
import Derived.Test.YtdfnpaaejjediaaQui
import Derived.StillTailTactics
namespace Go.Proofs.Ytdfnpaaejjediaa
open Go.RowKit

def veq (v u : Vw) : Bool := decide (v.num = u.num ∧ v.ce = u.ce ∧ v.cr = u.cr ∧ v.mem = u.mem)
theorem veq_eq {v u : Vw} : veq v u = true ↔ v = u := by
  unfold veq
  rw [decide_eq_true_eq]
  cases v; cases u; simp
theorem run_eql_view (w : World) (a1 a2 a4 b1 b2 b4 : Nat) (a3 b3 : Int) : (binOp .eql 27 (.agg #[.int .u64 a1, .int .u64 a2, .int .i64 a3, .int .u64 a4]) (.agg #[.int .u64 b1, .int .u64 b2, .int .i64 b3, .int .u64 b4])).run Try.prog w = .ok (.bool (decide (a1 = b1 ∧ a2 = b2 ∧ a3 = b3 ∧ a4 = b4))) w := by
  by_cases h1 : a1 = b1 <;> by_cases h2 : a2 = b2 <;> by_cases h3 : a3 = b3 <;> by_cases h4 : a4 = b4 <;> simp [go_sem, h1, h2, h3, h4] <;> omega
theorem run_eql_vw (w : World) (v u : Vw) : (binOp .eql 27 (.agg #[.int .u64 v.num, .int .u64 v.ce, .int .i64 v.cr, .int .u64 v.mem]) (.agg #[.int .u64 u.num, .int .u64 u.ce, .int .i64 u.cr, .int .u64 u.mem])).run Try.prog w = .ok (.bool (veq v u)) w := run_eql_view w _ _ _ _ _ _ _ _
theorem Try.viewG : Try.prog.eqGuardType Try.prog.depth 27 = false := by kernel_rfl
theorem run_neq_vw (w : World) (v u : Vw) : (binOp .neq 27 (.agg #[.int .u64 v.num, .int .u64 v.ce, .int .i64 v.cr, .int .u64 v.mem]) (.agg #[.int .u64 u.num, .int .u64 u.ce, .int .i64 u.cr, .int .u64 u.mem])).run Try.prog w = .ok (.bool (!veq v u)) w := by
  have h := run_eql_vw w v u
  by_cases h1 : v.num = u.num <;> by_cases h2 : v.ce = u.ce <;> by_cases h3 : v.cr = u.cr <;> by_cases h4 : v.mem = u.mem <;> simp [go_sem, veq, h1, h2, h3, h4] <;> omega
set_option maxHeartbeats 800000 in
theorem views_some (b off c b' off' c' n : Nat) (l : List Vw) (w : World) (hr : RdV w (some ⟨b, off, none⟩) n c l) (hr' : RdV w (some ⟨b', off', none⟩) n c' l) :
    Calls Try.prog 47 #[.slice (some ⟨b, off, none⟩) n c, .slice (some ⟨b', off', none⟩) n c'] w fun e w' => e = .returned (.bool true) ∧ Below w.heap.size w w' := by
  have hl := Lib.hid hr.len
  have hmx := Rd.le_max hr
  unfold maxLen at hmx
  go_enter Try.func47, Try.ntmps47
  go_wp2
  go_loopw [5] (fun i wr => ∃ k : Nat, k ≤ n ∧ i = .int .i64 k ∧ Below w.heap.size w wr) (fun i _ => n - (intOf i).toNat)
  case atStart => exact ⟨0, Nat.zero_le _, rfl, Below.refl _ _⟩
  case round =>
    obtain ⟨k, hk, rfl, hbr⟩ := hrel
    by_cases hlt : k < n
    · have hkl : k < l.length := by rw [hl.out]; exact hlt
      obtain ⟨c0, c1, c2, c3⟩ := (hr.below hbr (Nat.le_refl _)).at k hkl
      obtain ⟨d0, d1, d2, d3⟩ := (hr'.below hbr (Nat.le_refl _)).at k hkl
      have hkI : (k : Int) < n := by omega
      have HE := fun W => run_neq_vw W l[k] l[k]
      rw [show veq l[k] l[k] = true from veq_eq.2 rfl] at HE
      replace HE := Lib.hid HE
      generalize l[k] = p at *
      go_wp2
      refine wp_region_quiet_lit (by kernel_rfl) (by kernel_rfl) ?_
      iterate 8 go_big_quiet_step (fail)
      refine wpQuiet_agg (by rfl) Try.viewG (.tmp 20) (.tmp 24) _ rfl rfl rfl HE.out ?_
      refine wpQuiet_nil ?_
      rintro _ ⟨nq, rfl⟩
      go_wp2
      go_roundw
      case rel => exact ⟨k + 1, by omega, by go_num, belN hbr _⟩
      case measure => simp [intOf]; omega
    · have hki : ¬ (k : Int) < n := by omega
      go_wp2
      go_ret
      exact ⟨rfl, hbr⟩
set_option maxHeartbeats 800000 in
theorem views_nil (a a' : Option Addr) (c c' : Nat) (w : World) :
    Calls Try.prog 47 #[.slice a 0 c, .slice a' 0 c'] w fun e w' => e = .returned (.bool true) ∧ Below w.heap.size w w' := by
  go_enter Try.func47, Try.ntmps47
  go_wp2
  refine wp_loop_rounds 1 ?_
  rw [rounds_succ]
  go_wp2
  go_ret
  exact ⟨rfl, Below.refl _ _⟩
theorem views_any (a a' : Option Addr) (n c c' : Nat) (l : List Vw) (w : World) (hr : RdV w a n c l) (hr' : RdV w a' n c' l) :
    Calls Try.prog 47 #[.slice a n c, .slice a' n c'] w fun e w' => e = .returned (.bool true) ∧ Below w.heap.size w w' := by
  by_cases h0 : n = 0
  · subst h0; exact views_nil _ _ c c' w
  · obtain ⟨b, off, rfl, _⟩ := Rd.addr hr (by omega)
    obtain ⟨b', off', rfl, _⟩ := Rd.addr hr' (by omega)
    exact views_some b off c b' off' c' n l w hr hr'
section
variable {P : Program} {w : World} {ops : Array Oper} {rest : List Oper} {o : Oper} {a : Act} {Q : Exit → Act → World → Prop} {t : TypeId}
theorem wpList_blk_get_g (hw : Region.wanted o (yielded ops a.tmps) = true) (x : Operand) (ho : o.op = .load t x) {b p : Nat} (hx : a.eval x = .pointer (some ⟨b, p, none⟩)) {t' : TypeId} {old cs : Array Value} (hb : BlkAt w b t' old) {d : TypeDesc}
    (hu : P.underlying t = some d) (hd : d.isRow = true) (hi : (P.info? t).map (·.size) = some cs.size) (hv : ∀ j v, cs.toList[j]? = some v → old[p + j]? = some v)
    (h : wpList P ops Q rest (a.put o.dst (.agg cs)) w) : wpList P ops Q (o :: rest) a w :=
  wpList_step fun K hK => by
    rw [if_pos hw]
    exact wp_load_mid t x ho b p hx cs.toList d (hb.range hv) hu hd (by simpa using hi) (hK _ _ h)
end
theorem get4 {x0 x1 x2 x3 : Value} {old : Array Value} {p : Nat} (h0 : old[p]? = some x0) (h1 : old[p + 1]? = some x1) (h2 : old[p + 2]? = some x2) (h3 : old[p + 3]? = some x3) : ∀ j v, (#[x0, x1, x2, x3] : Array Value).toList[j]? = some v → old[p + j]? = some v := by
  intro j v h
  rcases j with _ | _ | _ | _ | j
  · exact h0.trans h
  · exact h1.trans h
  · exact h2.trans h
  · exact h3.trans h
  · cases h
theorem get5 {x0 x1 x2 x3 x4 : Value} {old : Array Value} {p : Nat} (h0 : old[p]? = some x0) (h1 : old[p + 1]? = some x1) (h2 : old[p + 2]? = some x2) (h3 : old[p + 3]? = some x3) (h4 : old[p + 4]? = some x4) : ∀ j v, (#[x0, x1, x2, x3, x4] : Array Value).toList[j]? = some v → old[p + j]? = some v := by
  intro j v h
  rcases j with _ | _ | _ | _ | _ | j
  · exact h0.trans h
  · exact h1.trans h
  · exact h2.trans h
  · exact h3.trans h
  · exact h4.trans h
  · cases h
theorem Try.rrZ : (Try.prog.info? 41).map (·.zero) = some (some (.agg #[.int .u64 0, .int .u64 0, .int .i64 0, .int .u64 0, .slice none 0 0])) := by kernel_rfl
theorem Try.rrI (v : Vw) (x : Value) : (Try.prog.info? 41).map (·.size) = some (#[.int .u64 v.num, .int .u64 v.ce, .int .i64 v.cr, .int .u64 v.mem, x] : Array Value).size := by show _ = some 5; kernel_rfl
theorem Try.rrB (v : Vw) (a : Option Addr) (n c : Nat) : Try.prog.built 41 [(0, .agg #[.int .u64 v.num, .int .u64 v.ce, .int .i64 v.cr, .int .u64 v.mem]), (1, .slice a n c)] = some #[.int .u64 v.num, .int .u64 v.ce, .int .i64 v.cr, .int .u64 v.mem, .slice a n c] := by kernel_rfl
theorem Try.rsZ : (Try.prog.info? 43).map (·.zero) = some (some (.agg zST)) := by kernel_rfl
theorem Try.rsI : (Try.prog.info? 43).map (·.size) = some 7 := by kernel_rfl
theorem Try.rsB (e i : Int) (v : Vw) (a : Option Addr) (n c : Nat) : Try.prog.built 43 [(0, .int .u64 e), (1, .int .u32 i), (2, .agg #[.int .u64 v.num, .int .u64 v.ce, .int .i64 v.cr, .int .u64 v.mem, .slice a n c])] = some #[.int .u64 e, .int .u32 i, .int .u64 v.num, .int .u64 v.ce, .int .i64 v.cr, .int .u64 v.mem, .slice a n c] := by kernel_rfl
set_option maxHeartbeats 1600000 in
set_option maxRecDepth 100000 in
theorem rec_any (v : Vw) (a : Option Addr) (n c : Nat) (w : World) : Calls Try.prog 21 #[.agg #[.int .u64 v.num, .int .u64 v.ce, .int .i64 v.cr, .int .u64 v.mem, .slice a n c]] w fun e w' => e = .returned (.agg #[.int .u64 v.num, .int .u64 v.ce, .int .i64 v.cr, .int .u64 v.mem, .slice a n c]) ∧ Below w.heap.size w w' := by
  have BA := (BlkAt.new w 30 #[.int .u64 v.num, .int .u64 v.ce, .int .i64 v.cr, .int .u64 v.mem, .slice a n c]).alloc (.cells #[.int .u64 0, .int .u64 0, .int .i64 0, .int .u64 0, .slice none 0 0] 41)
  have BR : BlkAt ((w.alloc (.cells #[.int .u64 v.num, .int .u64 v.ce, .int .i64 v.cr, .int .u64 v.mem, .slice a n c] 30)).alloc (.cells #[.int .u64 0, .int .u64 0, .int .i64 0, .int .u64 0, .slice none 0 0] 41)) (w.heap.size + 1) 41 #[.int .u64 0, .int .u64 0, .int .i64 0, .int .u64 0, .slice none 0 0] := by
    have := BlkAt.new (w.alloc (.cells #[.int .u64 v.num, .int .u64 v.ce, .int .i64 v.cr, .int .u64 v.mem, .slice a n c] 30)) 41 #[.int .u64 0, .int .u64 0, .int .i64 0, .int .u64 0, .slice none 0 0]
    simpa using this
  have E : Below w.heap.size w ((w.alloc (.cells #[.int .u64 v.num, .int .u64 v.ce, .int .i64 v.cr, .int .u64 v.mem, .slice a n c] 30)).alloc (.cells #[.int .u64 0, .int .u64 0, .int .i64 0, .int .u64 0, .slice none 0 0] 41)) := ((Below.refl _ _).alloc (Nat.le_refl _) _).alloc (by simp) _
  have c4 := BA.cell (i := 4) rfl
  go_enter Try.func21, Try.ntmps21
  go_wp2_with (first
    | (refine wpList_blk_box rfl (.tmp 0) rfl rfl w.heap.size rfl ?_)
    | (refine wpList_blk_alloc rfl rfl Try.rrZ (w.heap.size + 1) (by simp) ?_)
    | (refine wpList_blk_get (cs := #[.int .u64 v.num, .int .u64 v.ce, .int .i64 v.cr, .int .u64 v.mem]) rfl (.tmp 3) rfl rfl BA Try.underlying27 rfl (Try.viewI v) (get4 rfl rfl rfl rfl) ?_)
    | (refine wpList_blk_build rfl #[(0, .tmp 4), (1, .tmp 6)] rfl (by rw [List.map_toArray]; exact Try.rrB v _ _ _) ?_)
    | (refine wpList_blk_store rfl (.tmp 2) (.tmp 7) rfl rfl rfl BR (Try.rrI _ _) rfl (by simp [Value.oneCell']) ?_; intro w4 hB4 hK4 hs4))
  exact bodyPost_ret (results_cell_row rfl _ _ (w.heap.size + 1) 41 _ (0, 0) _ rfl hB4 Try.underlying41 rfl (Try.rrI v _)) rfl ⟨rfl, Kp.below E hK4 (by omega) E.size⟩
end Go.Proofs.Ytdfnpaaejjediaa
