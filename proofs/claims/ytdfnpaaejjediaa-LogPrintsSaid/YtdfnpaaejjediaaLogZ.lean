/- log: the reference's Print; the statements' Item -/
import Derived.Test.YtdfnpaaejjediaaLogY
import Derived.Test.YtdfnpaaejjediaaLogF
namespace Go.Proofs.Ytdfnpaaejjediaa
open Go.RowKit Go.Sort

set_option maxHeartbeats 3200000 in
set_option maxRecDepth 100000 in
theorem rprint_any (s : St) (pa : Option Addr) (pn pc : Nat) (hw : s.Wf) (w : World) (hp : RdV w pa pn pc s.rc.pend) :
    Calls Try.prog 9 #[.agg #[.int .u64 s.epoch, .int .u32 s.inc, .int .u64 s.rc.last.num, .int .u64 s.rc.last.ce, .int .i64 s.rc.last.cr, .int .u64 s.rc.last.mem, .slice pa pn pc]] w fun e w' => e = .returned (.tuple #[.string (prS s), .int .i64 (recE s.rc)]) ∧ Below w.heap.size w w' := by
  have hA := BlkAt.new w 43 #[.int .u64 s.epoch, .int .u32 s.inc, .int .u64 s.rc.last.num, .int .u64 s.rc.last.ce, .int .i64 s.rc.last.cr, .int .u64 s.rc.last.mem, .slice pa pn pc]
  have E := (Below.refl w.heap.size w).alloc (Nat.le_refl _) (.cells #[.int .u64 s.epoch, .int .u32 s.inc, .int .u64 s.rc.last.num, .int .u64 s.rc.last.ce, .int .i64 s.rc.last.cr, .int .u64 s.rc.last.mem, .slice pa pn pc] 43)
  replace hp : RdV _ pa pn pc s.rc.pend := hp.below E (Nat.le_refl _)
  obtain ⟨hw1, hw2, hw3⟩ := hw
  have HR := Lib.hid (fun W (h : RdV W pa pn pc s.rc.pend) => rrecp_any s.rc pa pn pc hw3 W h)
  have hsz : recE s.rc = 0 → (recB s.rc).length ≤ 1000 := fun h => by
    have : s.rc.pend.length ≤ 32 := by
      unfold recE at h
      split at h
      · cases h
      · split at h
        · cases h
        · omega
    rw [recB_len]; omega
  obtain ⟨S, hS⟩ : ∃ S, S = prS s := ⟨_, rfl⟩
  obtain ⟨er, her⟩ : ∃ er, er = recE s.rc := ⟨_, rfl⟩
  rw [← hS, ← her]
  rw [← her] at HR hsz
  replace hS := Lib.hid hS
  replace her := Lib.hid her
  go_enter Try.func9, Try.ntmps9
  go_wp2_with (first
    | (refine wpList_blk_box rfl (.tmp 0) rfl rfl w.heap.size rfl ?_)
    | (refine wpList_blk_get (cs := #[.int .u64 s.rc.last.num, .int .u64 s.rc.last.ce, .int .i64 s.rc.last.cr, .int .u64 s.rc.last.mem, .slice pa pn pc]) rfl (.tmp 7) rfl rfl hA Try.underlying41 rfl (Try.rrI _ _) (get5 rfl rfl rfl rfl rfl) ?_))
  generalize w.alloc _ = w1 at *
  refine (HR.out _ hp).mono ?_
  rintro e w2 ⟨rfl, hb⟩
  replace E := belS E hb
  replace hA := hA.below hb hA.lt
  clear hb hp HR
  by_cases he : er = 0
  · have he2 : recE s.rc = 0 := by rw [← her.out]; exact he
    have hr : rcS s.rc = strOfNums (recB s.rc) := if_pos he2
    have hpS : S = strOfNums ([1] ++ beL s.epoch 8 8 ++ beL s.inc 4 4 ++ recB s.rc) := by
      rw [hS.out, prS, if_pos he2, stB]; simp only [List.append_assoc]; rfl
    have hl := hsz he
    rw [hr]
    clear he2 her hS
    subst he
    have hp4 : IntKind.u64.wrap (s.inc : Int) = s.inc := by rw [IntKind.wrap_u64]; omega
    have HP1 := Lib.hid (fun W => rputA [1] s.epoch 8 8 rfl W (by decide) (by omega) (by omega))
    have HP2 := Lib.hid (fun W => rputA ([1] ++ beL s.epoch 8 8) s.inc 4 4 rfl W (by simp only [List.length_append, beL_len]; decide) (by omega) (by omega))
    have hl2 : ([1] ++ beL s.epoch 8 8 ++ beL s.inc 4 4).length = 13 := by simp only [List.length_append, beL_len]; rfl
    rw [show strOfNums [1] = ⟨#[1]⟩ from rfl] at HP1
    generalize [1] ++ beL s.epoch 8 8 ++ beL s.inc 4 4 = l2 at *
    generalize [1] ++ beL s.epoch 8 8 = l1 at *
    generalize recB s.rc = rb at *
    replace hpS := Lib.hid hpS
    have hcat : ¬ 9223372036854775807 < (strOfNums l2).size + (strOfNums rb).size := by rw [strOfNums_len, strOfNums_len]; omega
    have hcat2 := Lib.hid (strOfNums_app l2 rb)
    clear hsz hr hl hl2
    have c0 := hA.cell (i := 0) rfl
    have c1 := hA.cell (i := 1) rfl
    go_wp2_with fail
    have k0 := cell_regrown c0
    have k1 := cell_regrown c1
    have kP1 := fun d os => Calls.regrown_of (HP1.out (grow (redrawn w2 d) os))
    have kP2 := fun d os => Calls.regrown_of (HP2.out (grow (redrawn w2 d) os))
    refine wp_region_quiet_below (by kernel_rfl) (by kernel_rfl) ?_
    iterate 11 go_big_quiet_step (first | (with_reducible exact kP1 _ _) | (with_reducible exact kP2 _ _))
    refine wpQuiet_nil ?_
    intro w3 hw'
    obtain ⟨⟨dq, osq⟩, hw''⟩ := hw'
    subst hw''
    replace E := belS E (below_regrown w2 dq osq)
    clear k0 k1 kP1 kP2 c0 c1
    generalize grow (redrawn w2 dq) osq = w3 at *
    go_wp2
    exact bodyPost_ret (v := .tuple #[.string (strOfNums (l2 ++ rb)), .int .i64 0]) (by simp [results, Try.results9, go_sem, hcat2.out]) rfl ⟨by rw [hpS.out, ← hcat2.out], E⟩
  · have hpS : S = ⟨#[]⟩ := by rw [hS.out]; exact if_neg (fun h => he (her.out.trans h))
    clear hS her hsz
    subst hpS
    generalize rcS s.rc = rs at *
    go_wp2
    exact bodyPost_ret (v := .tuple #[.string ⟨#[]⟩, .int .i64 er]) (by simp [results, Try.results9, go_sem]) rfl ⟨rfl, E⟩
end Go.Proofs.Ytdfnpaaejjediaa
