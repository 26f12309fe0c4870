/- log: the reference's printers: view -/
import Derived.Test.YtdfnpaaejjediaaLogU
import Derived.Test.YtdfnpaaejjediaaNumC
namespace Go.Proofs.Ytdfnpaaejjediaa
open Go.RowKit Go.Sort

theorem strOfNums_app (l m : List Int) : strOfNums l ++ strOfNums m = strOfNums (l ++ m) := by
  apply ByteArray.ext; simp [strOfNums]
theorem strOfNums_len (l : List Int) : (strOfNums l).size = l.length := by simp [strOfNums, ByteArray.size]
theorem rput0 (v n : Int) (m : Nat) (hm : szB n = m) (w : World) (hv0 : 0 ≤ v) (hv1 : v < 18446744073709551616) :
    Calls Try.prog 28 #[.string ⟨#[]⟩, .int .u64 v, .int .i64 n] w fun e w' => e = .returned (.string (strOfNums (beL v m m))) ∧ Below w.heap.size w w' := by
  subst hm
  have h := rput_any (strOfNums []) v n w (by decide) hv0 hv1
  rw [strOfNums_app] at h
  exact h
theorem rputA (l : List Int) (v n : Int) (m : Nat) (hm : szB n = m) (w : World) (hl : l.length ≤ 100000000) (hv0 : 0 ≤ v) (hv1 : v < 18446744073709551616) :
    Calls Try.prog 28 #[.string (strOfNums l), .int .u64 v, .int .i64 n] w fun e w' => e = .returned (.string (strOfNums (l ++ beL v m m))) ∧ Below w.heap.size w w' := by
  subst hm
  have h := rput_any (strOfNums l) v n w (by rw [strOfNums_len]; exact hl) hv0 hv1
  rw [strOfNums_app] at h
  exact h
set_option maxHeartbeats 1600000 in
set_option maxRecDepth 100000 in
theorem rvw_no (v : Vw) (ho : v.ok = false) (w : World) : Calls Try.prog 33 #[.agg #[.int .u64 v.num, .int .u64 v.ce, .int .i64 v.cr, .int .u64 v.mem]] w fun e w' => e = .returned (.tuple #[.string ⟨#[]⟩, .int .i64 1]) ∧ Below w.heap.size w w' := by
  have hA := BlkAt.new w 27 #[.int .u64 v.num, .int .u64 v.ce, .int .i64 v.cr, .int .u64 v.mem]
  have E := (Below.refl w.heap.size w).alloc (Nat.le_refl _) (.cells #[.int .u64 v.num, .int .u64 v.ce, .int .i64 v.cr, .int .u64 v.mem] 27)
  have c2 := hA.cell (i := 2) rfl
  have hb : v.cr < 0 ∨ ¬ v.cr < 0 ∧ 63 < v.cr := by
    simp only [Vw.ok, decide_eq_false_iff_not] at ho
    omega
  clear ho
  rcases hb with hb | ⟨hb1, hb⟩
  all_goals
    go_enter Try.func33, Try.ntmps33
    go_wp2_with (refine wpList_blk_box rfl (.tmp 0) rfl rfl w.heap.size rfl ?_)
    exact bodyPost_ret (v := .tuple #[.string ⟨#[]⟩, .int .i64 1]) (by simp [results, Try.results33, go_sem]) rfl ⟨rfl, E⟩
set_option maxHeartbeats 1600000 in
set_option maxRecDepth 100000 in
theorem rvw_yes (v : Vw) (hw : v.Wf) (ho : v.ok = true) (w : World) : Calls Try.prog 33 #[.agg #[.int .u64 v.num, .int .u64 v.ce, .int .i64 v.cr, .int .u64 v.mem]] w fun e w' => e = .returned (.tuple #[.string (strOfNums (vwB v)), .int .i64 0]) ∧ Below w.heap.size w w' := by
  have hA := BlkAt.new w 27 #[.int .u64 v.num, .int .u64 v.ce, .int .i64 v.cr, .int .u64 v.mem]
  have E := (Below.refl w.heap.size w).alloc (Nat.le_refl _) (.cells #[.int .u64 v.num, .int .u64 v.ce, .int .i64 v.cr, .int .u64 v.mem] 27)
  have hV := Lib.hid (show vwB v = beL v.num 8 8 ++ (beL v.ce 8 8 ++ (beL v.cr 1 1 ++ beL v.mem 8 8)) from rfl)
  obtain ⟨u1, u2, u3, u4⟩ := hw
  simp only [Vw.ok, decide_eq_true_eq] at ho
  obtain ⟨o1, o2⟩ := ho
  obtain ⟨nu, ce, cr, me⟩ := v
  simp only at *
  have o3 : ¬ cr < 0 := by omega
  have o4 : ¬ 63 < cr := by omega
  have hcr : IntKind.u64.wrap cr = cr := by rw [IntKind.wrap_u64]; omega
  have HP1 := Lib.hid (fun W => rput0 nu 8 8 rfl W (by omega) (by omega))
  have HP2 := Lib.hid (fun W => rputA (beL nu 8 8) ce 8 8 rfl W (by simp only [beL_len]; omega) (by omega) (by omega))
  have HP3 := Lib.hid (fun W => rputA (beL nu 8 8 ++ beL ce 8 8) cr 1 1 rfl W (by simp only [List.length_append, beL_len]; omega) (by omega) (by omega))
  have HP4 := Lib.hid (fun W => rputA (beL nu 8 8 ++ beL ce 8 8 ++ beL cr 1 1) me 8 8 rfl W (by simp only [List.length_append, beL_len]; omega) (by omega) (by omega))
  rw [show beL nu 8 8 ++ beL ce 8 8 ++ beL cr 1 1 ++ beL me 8 8 = beL nu 8 8 ++ (beL ce 8 8 ++ (beL cr 1 1 ++ beL me 8 8)) from by simp only [List.append_assoc], ← hV.out] at HP4
  generalize vwB _ = vb at *
  generalize beL nu 8 8 ++ beL ce 8 8 ++ beL cr 1 1 = l3 at *
  generalize beL nu 8 8 ++ beL ce 8 8 = l2 at *
  generalize beL nu 8 8 = l1 at *
  go_enter Try.func33, Try.ntmps33
  have c0 := hA.cell (i := 0) rfl
  have c1 := hA.cell (i := 1) rfl
  have c2 := hA.cell (i := 2) rfl
  have c3 := hA.cell (i := 3) rfl
  go_wp2_with (refine wpList_blk_box rfl (.tmp 0) rfl rfl w.heap.size rfl ?_)
  generalize w.alloc _ = w1 at *
  have k0 := cell_regrown c0
  have k1 := cell_regrown c1
  have kP1 := fun d os => Calls.regrown_of (HP1.out (grow (redrawn w1 d) os))
  have kP2 := fun d os => Calls.regrown_of (HP2.out (grow (redrawn w1 d) os))
  refine wp_region_quiet_below (by kernel_rfl) (by kernel_rfl) ?_
  iterate 8 go_big_quiet_step (first | (with_reducible exact kP1 _ _) | (with_reducible exact kP2 _ _))
  refine wpQuiet_nil ?_
  intro w2 hw'
  obtain ⟨⟨dq, osq⟩, hw''⟩ := hw'
  subst hw''
  have hbb := below_regrown w1 dq osq
  replace E := belS E hbb
  replace c2 := (cell_regrown c2) dq osq
  replace c3 := (cell_regrown c3) dq osq
  clear k0 k1 kP1 kP2 hbb c0 c1 hA
  generalize grow (redrawn w1 dq) osq = w2 at *
  go_wp2_with fail
  have k2 := cell_regrown c2
  have k3 := cell_regrown c3
  have kP3 := fun d os => Calls.regrown_of (HP3.out (grow (redrawn w2 d) os))
  have kP4 := fun d os => Calls.regrown_of (HP4.out (grow (redrawn w2 d) os))
  refine wp_region_quiet_below (by kernel_rfl) (by kernel_rfl) ?_
  iterate 11 go_big_quiet_step (first | (with_reducible exact kP3 _ _) | (with_reducible exact kP4 _ _))
  refine wpQuiet_nil ?_
  intro w3 hw'
  obtain ⟨⟨dq, osq⟩, hw''⟩ := hw'
  subst hw''
  replace E := belS E (below_regrown w2 dq osq)
  clear k2 k3 kP3 kP4 c2 c3
  generalize grow (redrawn w2 dq) osq = w3 at *
  go_wp2
  exact bodyPost_ret (v := .tuple #[.string (strOfNums vb), .int .i64 0]) (by simp [results, Try.results33, go_sem]) rfl ⟨rfl, E⟩
end Go.Proofs.Ytdfnpaaejjediaa
