/- the walk of VoteMore -/
import Derived.Test.YtnpinkcadkkeoaaVoteQ
import Derived.Deep.RegionHeld3
namespace Go.Proofs.Ytnpinkcadkkeoaa
open Go.RowKit Go.Sort
/-- A view is added. -/
def addL (u : Vw) (pd : List Vw) : List Vw := if pd.length < 32 then pd ++ [u] else pd
theorem add_any (x u : Vw) (pa : Option Addr) (pn pc : Nat) (pd : List Vw) (hn2 : pn ≤ 9223372036854775807) (w : World) (hr : RdV w pa pn pc pd) :
    Calls Try.prog 21 #[.agg #[.int .u64 x.num, .int .u64 x.ce, .int .i64 x.cr, .int .u64 x.mem, .slice pa pn pc], .agg #[.int .u64 u.num, .int .u64 u.ce, .int .i64 u.cr, .int .u64 u.mem]] w fun e w' => ∃ a c, e = .returned (.tuple #[.agg #[.int .u64 x.num, .int .u64 x.ce, .int .i64 x.cr, .int .u64 x.mem, .slice a (addL u pd).length c], .bool (decide (pd.length < 32))]) ∧ RdV w' a (addL u pd).length c (addL u pd) ∧ Below w.heap.size w w' := by
  have hl := hr.len
  by_cases h : pd.length < 32
  · have e1 : addL u pd = pd ++ [u] := if_pos h
    have e2 : (pd ++ [u]).length = pn + 1 := by simp [hl]
    rw [e1, e2, decide_eq_true h]
    exact (add_yes x u pa pn pc pd (by omega) w hr).mono (fun e w' ⟨a, c, he, h1, h2⟩ => ⟨a, c, he, h1, h2⟩)
  · have e1 : addL u pd = pd := if_neg h
    rw [decide_eq_false h, e1, hl]
    exact (add_no x u pa pn pc (by omega) hn2 w).mono (fun e w' ⟨he, hb⟩ => ⟨pa, pc, he, hr.below hb (Nat.le_refl _), hb⟩)
theorem pend_one (r : Rc) : pendL [r] = pendV r.last.num [] r.pend := rfl
theorem pendV_sub {m : Nat} {pd : List Vw} : ∀ {o : List Vw}, ∀ v ∈ pendV m o pd, v ∈ o ∨ (v ∈ pd ∧ m < v.num) := by
  induction pd with
  | nil => intro o v hv; exact .inl hv
  | cons x pd ih =>
    intro o v hv
    rw [pendV, List.foldl_cons] at hv
    have h := ih v hv
    rcases h with h | ⟨h, hm⟩
    · by_cases hc : m < x.num ∧ o.any (veq x) = false
      · rw [if_pos hc] at h
        rcases List.mem_append.1 h with h | h
        · exact .inl h
        · rw [List.mem_singleton.1 h]
          exact .inr ⟨List.mem_cons_self .., hc.1⟩
      · rw [if_neg hc] at h
        exact .inl h
    · exact .inr ⟨List.mem_cons_of_mem _ h, hm⟩
theorem pendV_sup {m : Nat} {pd : List Vw} : ∀ {o : List Vw} (v : Vw), (v ∈ o ∨ (v ∈ pd ∧ m < v.num)) → v ∈ pendV m o pd := by
  induction pd with
  | nil => intro o v hv; rcases hv with hv | ⟨hv, _⟩; exact hv; cases hv
  | cons x pd ih =>
    intro o v hv
    rw [pendV, List.foldl_cons]
    refine ih v ?_
    rcases hv with hv | ⟨hv, hm⟩
    · left
      split
      · exact List.mem_append_left _ hv
      · exact hv
    · rcases List.mem_cons.1 hv with rfl | hv
      · left
        split
        · exact List.mem_append_right _ (List.mem_singleton_self _)
        · rename_i hc
          have : o.any (veq v) = true := by
            cases ha : o.any (veq v) with
            | true => rfl
            | false => exact absurd ⟨hm, ha⟩ hc
          obtain ⟨z, hz, he⟩ := List.any_eq_true.1 this
          rw [veq_eq.1 he]; exact hz
      · exact .inr ⟨hv, hm⟩
theorem may_add {m : Nat} {x u : Vw} {pd : List Vw} (h : mayB m [⟨x, pd ++ [u]⟩] = true) : mayB m [⟨x, pd⟩] = true := by
  obtain ⟨_, h1, h2⟩ := mayB_t.1 h
  refine mayB_t.2 ⟨by simp, h1, fun v hv => h2 v ?_⟩
  rw [pend_one] at hv ⊢
  refine pendV_sup v ?_
  rcases pendV_sub v hv with h | ⟨h, hm⟩
  · cases h
  · exact .inr ⟨List.mem_append_left _ h, hm⟩
theorem maxV_ge {pd : List Vw} : ∀ {z : Nat}, z ≤ maxV z pd ∧ ∀ v ∈ pd, v.num ≤ maxV z pd := by
  induction pd with
  | nil => intro z; exact ⟨Nat.le_refl _, fun v hv => by cases hv⟩
  | cons x pd ih =>
    intro z
    have h := @ih (max z x.num)
    rw [maxV, List.foldl_cons]
    refine ⟨Nat.le_trans (Nat.le_max_left ..) h.1, fun v hv => ?_⟩
    rcases List.mem_cons.1 hv with rfl | hv
    · exact Nat.le_trans (Nat.le_max_right ..) h.1
    · exact h.2 v hv
theorem next_above {x : Vw} {pd : List Vw} (h : nextL [⟨x, pd⟩] ≠ 18446744073709551615) : x.num < nextL [⟨x, pd⟩] ∧ ∀ v ∈ pd, v.num < nextL [⟨x, pd⟩] := by
  have e : nextL [⟨x, pd⟩] = sumN (maxV (max 0 x.num) pd) 1 := rfl
  have k := @maxV_ge pd (max 0 x.num)
  rw [e] at h ⊢
  generalize maxV (max 0 x.num) pd = q at *
  unfold sumN at *
  split at h
  · exact absurd rfl h
  · refine ⟨?_, fun v hv => ?_⟩
    · rw [if_neg (by assumption)]; have := k.1; omega
    · rw [if_neg (by assumption)]; have := k.2 v hv; omega
theorem may_formed {m : Nat} {u : Vw} : mayB m [⟨u, []⟩] = mostB m u.mem := by
  rw [Bool.eq_iff_iff, mayB_t, most_t]
  exact ⟨fun h => h.2.1, fun h => ⟨by simp, h, fun v hv => by cases hv⟩⟩
set_option maxHeartbeats 3200000 in
set_option maxRecDepth 100000 in
theorem more_law0 (x u : Vw) (pa : Option Addr) (pn pc m : Nat) (pd : List Vw) (hm : m < 18446744073709551616) (hx : x.Wf) (hu : u.Wf) (hpd : ∀ v ∈ pd, v.Wf) (hn2 : pn ≤ 9223372036854775807) (w : World) (hp : RdV w pa pn pc pd) :
    Calls Try.prog 4 #[.agg #[.int .u64 x.num, .int .u64 x.ce, .int .i64 x.cr, .int .u64 x.mem, .slice pa pn pc], .agg #[.int .u64 u.num, .int .u64 u.ce, .int .i64 u.cr, .int .u64 u.mem], .int .u64 m] w fun e w' => e = .returned (.bool true) ∧ Below w.heap.size w w' := by
  obtain ⟨W2, hW2⟩ : ∃ W, W = (w.alloc (.cells #[.int .u64 x.num, .int .u64 x.ce, .int .i64 x.cr, .int .u64 x.mem, .slice pa pn pc] 34)).alloc (.cells #[.int .u64 u.num, .int .u64 u.ce, .int .i64 u.cr, .int .u64 u.mem] 31) := ⟨_, rfl⟩
  have E : Below w.heap.size w W2 := by rw [hW2]; exact ((Below.refl _ _).alloc (Nat.le_refl _) _).alloc (by simp) _
  have hA : BlkAt W2 w.heap.size 34 #[.int .u64 x.num, .int .u64 x.ce, .int .i64 x.cr, .int .u64 x.mem, .slice pa pn pc] := by rw [hW2]; exact BlkAt.alloc (BlkAt.new w _ _) _
  have hB : BlkAt W2 (w.heap.size + 1) 31 #[.int .u64 u.num, .int .u64 u.ce, .int .i64 u.cr, .int .u64 u.mem] := by rw [hW2]; simpa using BlkAt.new (w.alloc (.cells #[.int .u64 x.num, .int .u64 x.ce, .int .i64 x.cr, .int .u64 x.mem, .slice pa pn pc] 34)) 31 #[.int .u64 u.num, .int .u64 u.ce, .int .i64 u.cr, .int .u64 u.mem]
  have HW := Lib.hid hW2.symm
  replace hp := hp.below E (Nat.le_refl _)
  have hl := hp.len
  clear hW2
  go_enter Try.func4, Try.ntmps4
  go_wp2_with fail
  rw [HW.out]
  clear HW
  refine (awake_any _).mono ?_
  rintro e w1 ⟨rfl, hb⟩
  replace E := belS E hb
  replace hA := hA.below hb hA.lt
  replace hB := hB.below hb hB.lt
  replace hp := hp.below hb (Nat.le_refl _)
  clear hb
  have c4 : w1.cell? ⟨w.heap.size, 4, none⟩ = some (.slice pa pn pc) := hA.cell rfl
  by_cases hbig : (300 : Int) < pn
  · go_wp2
    go_ret
    exact ⟨rfl, E⟩
  · have hn3 : pn ≤ 300 := by omega
    have hAdd := Lib.hid (fun W (h : RdV W pa pn pc pd) => add_any x u pa pn pc pd hn2 W h)
    have hpsl : (addL u pd).length ≤ 1000000 := by
      unfold addL
      split
      · simp [hl]; omega
      · rw [hl]; omega
    have hok : ∀ ok, decide (pd.length < 32) = ok → (ok = true → addL u pd = pd ++ [u]) := by
      intro ok h k
      subst k
      exact if_pos (of_decide_eq_true h)
    have hpsw : ∀ v ∈ addL u pd, v.Wf := by
      intro v hv
      unfold addL at hv
      split at hv
      · rcases List.mem_append.1 hv with h | h
        · exact hpd v h
        · rw [List.mem_singleton.1 h]; exact hu
      · exact hpd v hv
    generalize hpse : addL u pd = ps at *
    generalize hoke : decide (pd.length < 32) = ok at *
    generalize hple : ps.length = pl at *
    have hpln := Lib.hid hple
    replace hok := Lib.hid (hok ok rfl)
    replace hpsw := Lib.hid hpsw
    replace hpd := Lib.hid hpd
    replace hx := Lib.hid hx
    replace hu := Lib.hid hu
    clear hoke hpse hple hl hn2 hbig
    go_wp2_with (first
      | (refine wpList_blk_load rfl (.tmp 3) rfl Try.underlying34 rfl rfl hA Try.recI ?_)
      | (refine wpList_blk_load rfl (.tmp 4) rfl Try.underlying31 rfl rfl hB (Try.viewI u) ?_))
    refine (hAdd.out _ hp).mono ?_
    rintro e w2 ⟨sa, sc, rfl, hps, hb⟩
    replace E := belS E hb
    replace hA := hA.below hb hA.lt
    replace hB := hB.below hb hB.lt
    replace hp := hp.below hb (Nat.le_refl _)
    clear hb hAdd c4
    have hZ := BlkAt.new w2 34 #[.int .u64 0, .int .u64 0, .int .i64 0, .int .u64 0, .slice none 0 0]
    cases ok
    case' false =>
      go_wp2_with (first
        | (refine wpList_blk_alloc rfl rfl Try.recZ w2.heap.size rfl ?_)
        | (refine wpList_blk_store rfl (.tmp 7) (.tmp 22) rfl rfl rfl hZ Try.recI rfl (by simp [Value.oneCell']) ?_; intro w3 hS hK hsz;
           replace hK := alloc_store hK; replace E := belS E hK; replace hA := hA.below hK hA.lt; replace hB := hB.below hK hB.lt; replace hp := hp.below hK (Nat.le_refl _); replace hps := hps.below hK (Nat.le_refl _); clear hZ hsz hK)
        | (refine wpList_blk_load_g (by first | rfl | simp [Region.wanted, go_sem]) (.tmp 7) rfl Try.underlying34 rfl rfl hS Try.recI ?_))
    case' true =>
      go_wp2_with (first
        | (refine wpList_blk_alloc rfl rfl Try.recZ w2.heap.size rfl ?_)
        | (refine wpList_blk_store rfl (.tmp 7) (.tmp 22) rfl rfl rfl hZ Try.recI rfl (by simp [Value.oneCell']) ?_; intro w3 hS hK hsz;
           replace hK := alloc_store hK; replace E := belS E hK; replace hA := hA.below hK hA.lt; replace hB := hB.below hK hB.lt; replace hp := hp.below hK (Nat.le_refl _); replace hps := hps.below hK (Nat.le_refl _); clear hZ hsz hK)
        | (refine wpList_blk_load_g (by first | rfl | simp [Region.wanted, go_sem]) (.tmp 7) rfl Try.underlying34 rfl rfl hS Try.recI ?_))
    case' true =>
      refine (may_any m hm (some ⟨w3.heap.size, 0, none⟩) 1 1 [⟨x, ps⟩] (by intro r hr; rw [List.mem_singleton.1 hr]; exact ⟨hx.out, hpsw.out⟩) (by simpa [tot, hpln.out] using hpsl) _ (RdR.one (r := ⟨x, ps⟩) (BlkAt.new w3 _ _) (hps.below (alloc_below w3 _) (Nat.le_refl _)))).mono ?_
      rintro e w4 ⟨rfl, hb⟩
      replace hb := belS (alloc_below w3 _) hb
      replace E := belS E hb
      replace hA := hA.below hb hA.lt
      replace hB := hB.below hb hB.lt
      replace hS := hS.below hb hS.lt
      replace hp := hp.below hb (Nat.le_refl _)
      replace hps := hps.below hb (Nat.le_refl _)
      clear hb
      have hmm := Lib.hid (fun h : mayB m [⟨x, ps⟩] = true => may_add (m := m) (x := x) (u := u) (pd := pd) (by rw [← hok.out (by trivial)]; exact h))
      generalize mayB m [⟨x, ps⟩] = mb at *
      cases mb
    case' true.false =>
      go_wp2_with (refine wpList_blk_load_g (by first | rfl | simp [Region.wanted, go_sem]) (.tmp 7) rfl Try.underlying34 rfl rfl hS Try.recI ?_)
    case' true.true =>
      go_wp2_with (first
        | (refine wpList_blk_load_g (by first | rfl | simp [Region.wanted, go_sem]) (.tmp 7) rfl Try.underlying34 rfl rfl hS Try.recI ?_)
        | (refine wpList_blk_load_g (by first | rfl | simp [Region.wanted, go_sem]) (.tmp 3) rfl Try.underlying34 rfl rfl hA Try.recI ?_))
      refine (may_any m hm (some ⟨w4.heap.size, 0, none⟩) 1 1 [⟨x, pd⟩] (by intro r hr; rw [List.mem_singleton.1 hr]; exact ⟨hx.out, hpd.out⟩) (by simp [tot, hp.len]; omega) _ (RdR.one (r := ⟨x, pd⟩) (BlkAt.new w4 _ _) (hp.below (alloc_below w4 _) (Nat.le_refl _)))).mono ?_
      rintro e w5 ⟨rfl, hb⟩
      rw [hmm.out (by trivial)]
      replace hb := belS (alloc_below w4 _) hb
      replace E := belS E hb
      replace hA := hA.below hb hA.lt
      replace hB := hB.below hb hB.lt
      replace hS := hS.below hb hS.lt
      replace hp := hp.below hb (Nat.le_refl _)
      replace hps := hps.below hb (Nat.le_refl _)
      clear hb
      go_wp2_with (refine wpList_blk_load_g (by first | rfl | simp [Region.wanted, go_sem]) (.tmp 7) rfl Try.underlying34 rfl rfl hS Try.recI ?_)
    all_goals
      refine (next_any (some ⟨_, 0, none⟩) 1 1 [⟨x, ps⟩] (by intro r hr; rw [List.mem_singleton.1 hr]; exact ⟨hx.out, hpsw.out⟩) _ (RdR.one (r := ⟨x, ps⟩) (BlkAt.new _ _ _) (hps.below (alloc_below _ _) (Nat.le_refl _)))).mono ?_
      rintro e w6 ⟨rfl, hb⟩
      replace hb := belS (alloc_below _ _) hb
      replace E := belS E hb
      replace hA := hA.below hb hA.lt
      replace hB := hB.below hb hB.lt
      replace hS := hS.below hb hS.lt
      replace hp := hp.below hb (Nat.le_refl _)
      replace hps := hps.below hb (Nat.le_refl _)
      clear hb
      have s0 : w6.cell? ⟨w2.heap.size, 0, none⟩ = some (.int .u64 x.num) := hS.cell rfl
      have b0 : w6.cell? ⟨w.heap.size + 1, 0, none⟩ = some (.int .u64 u.num) := hB.cell rfl
      have hnx := Lib.hid (@next_above x ps)
      generalize nextL [⟨x, ps⟩] = nx at *
      have hFm := Lib.hid (form_any x u sa pl sc ps hpsl)
      have hZ9 : ∀ W : World, BlkAt (W.alloc (.cells #[.int .u64 0, .int .u64 0, .int .i64 0, .int .u64 0, .slice none 0 0] 34)) W.heap.size 34 #[.int .u64 0, .int .u64 0, .int .i64 0, .int .u64 0, .slice none 0 0] := fun W => BlkAt.new W _ _
      by_cases hmx : nx = 18446744073709551615
    all_goals
      first
        | subst hmx
        | (obtain ⟨h1, h2⟩ := hnx.out hmx
           have hi1 : (x.num : Int) < nx := by omega
           have hi3 : (nx : Int) ≠ 18446744073709551615 := by omega
           try
             have hi2 : (u.num : Int) < nx := by
               have := h2 u (by rw [hok.out (by trivial)]; simp)
               omega
           clear h1 h2)
    all_goals
      go_wp2_with (first
        | (refine wpList_blk_load_g (by first | rfl | simp [Region.wanted, go_sem]) (.tmp 7) rfl Try.underlying34 rfl rfl hS Try.recI ?_)
        | (refine wpList_blk_load rfl (.tmp 4) rfl Try.underlying31 rfl rfl hB (Try.viewI u) ?_))
    all_goals
      refine (hFm.out _ hps).mono ?_
      rintro e w7 ⟨fa, fc, rfl, hpf, hb⟩
      replace E := belS E hb
      replace hB := hB.below hb hB.lt
      try clear hmm
      clear hb hFm hS hA hp hps s0 b0 hok hnx hpsw hpd hx hpln hpsl
      have hpfn : Hid (∀ v ∈ formL u ps, u.num < v.num) := fun v hv => by
        have := (List.mem_filter.1 hv).2
        simpa using this
      generalize formL u ps = pf at *
      have hfmx := hpf.le_max
      unfold maxLen at hfmx
      generalize hfl : pf.length = fl at *
      replace hfl := Lib.hid hfl
      have hZ := BlkAt.new w7 34 #[.int .u64 0, .int .u64 0, .int .i64 0, .int .u64 0, .slice none 0 0]
      go_wp2_with (first
        | (refine wpList_blk_alloc rfl rfl Try.recZ w7.heap.size rfl ?_)
        | (refine wpList_blk_store rfl (.tmp 10) (.tmp 61) rfl rfl rfl hZ Try.recI rfl (by simp [Value.oneCell']) ?_; intro w8 hF hK hsz;
           replace hK := alloc_store hK; replace E := belS E hK; replace hB := hB.below hK hB.lt; replace hpf := hpf.below hK (Nat.le_refl _); clear hZ hsz hK))
      have hMst := Lib.hid (fun W => most_any m u.mem hm hu.out.2 W)
      have hMay := Lib.hid (fun (h : fl = 0) W (k : BlkAt W W.heap.size 34 #[.int .u64 u.num, .int .u64 u.ce, .int .i64 u.cr, .int .u64 u.mem, .slice fa fl fc]) => k)
      clear hMay hZ9
      go_loopw [11] (fun i wr => ∃ k : Nat, k ≤ fl ∧ i = .int .i64 k ∧ Below w8.heap.size w8 wr) (fun i _ => fl - (intOf i).toNat)
      case atStart => exact ⟨0, Nat.zero_le _, rfl, Below.refl _ _⟩
      case round =>
        obtain ⟨k, hk, rfl, hbr⟩ := hrel
        have hFr := hF.below hbr hF.lt
        have hBr := hB.below hbr hB.lt
        have hpr := hpf.below hbr (Nat.le_refl _)
        have f4 : wr.cell? ⟨w7.heap.size, 4, none⟩ = some (.slice fa fl fc) := hFr.cell rfl
        obtain ⟨b0, b1, b2, b3⟩ := vcells hBr
        clear hF hB hpf
        by_cases hlt : k < fl
        · have hkl : k < pf.length := by rw [hfl.out]; exact hlt
          obtain ⟨bs, off, rfl, _⟩ := Rd.addr hpr (by omega)
          obtain ⟨c0, c1, c2, c3⟩ := hpr.at k hkl
          have hkI : (k : Int) < fl := by omega
          have hnI : (u.num : Int) < pf[k].num := by have := hpfn.out _ (List.getElem_mem hkl); omega
          generalize pf[k] = z at *
          go_wp2
          go_quiet (fail)
          go_wp2
          go_roundw
          case rel => exact ⟨k + 1, by omega, by go_num, belN hbr _⟩
          case measure => simp [intOf]; omega
        · obtain rfl : k = fl := by omega
          go_wp2
          have hS0 : Below wr.heap.size wr wr := Below.refl _ _
          have hSall : ∀ W, Below wr.heap.size wr W → (W.cell? ⟨w7.heap.size, 0, none⟩ = some (.int .u64 u.num) ∧ W.cell? ⟨w7.heap.size, 1, none⟩ = some (.int .u64 u.ce) ∧ W.cell? ⟨w7.heap.size, 2, none⟩ = some (.int .i64 u.cr) ∧ W.cell? ⟨w7.heap.size, 3, none⟩ = some (.int .u64 u.mem) ∧ W.cell? ⟨w7.heap.size, 4, none⟩ = some (.slice fa k fc)) ∧ W.cell? ⟨w.heap.size + 1, 0, none⟩ = some (.int .u64 u.num) ∧ W.cell? ⟨w.heap.size + 1, 1, none⟩ = some (.int .u64 u.ce) ∧ W.cell? ⟨w.heap.size + 1, 2, none⟩ = some (.int .i64 u.cr) ∧ W.cell? ⟨w.heap.size + 1, 3, none⟩ = some (.int .u64 u.mem) := fun W h =>
            ⟨⟨(hFr.below h hFr.lt).cell rfl, (hFr.below h hFr.lt).cell rfl, (hFr.below h hFr.lt).cell rfl, (hFr.below h hFr.lt).cell rfl, (hFr.below h hFr.lt).cell rfl⟩, vcells (hBr.below h hBr.lt)⟩
          replace hSall := Lib.hid hSall
          clear b0 b1 b2 b3 f4 hk hlt
          have hEE := E.trans (hbr.mono E.size)
          by_cases h0 : k = 0
          · subst h0
            obtain rfl := List.eq_nil_of_length_eq_zero hfl.out
            have hMy : ∀ b W, b = wr.heap.size → W = wr.drew.alloc (.cells #[.int .u64 u.num, .int .u64 u.ce, .int .i64 u.cr, .int .u64 u.mem, .slice fa 0 fc] 34) → Calls Try.prog 16 #[.int .u64 m, .slice (some ⟨b, 0, none⟩) 1 1] W fun e w' => e = .returned (.bool (mostB m u.mem)) ∧ Below wr.heap.size wr w' := fun b W hb hW => by
              subst hb
              subst hW
              refine (may_any m hm (some ⟨wr.heap.size, 0, none⟩) 1 1 [⟨u, []⟩] (by intro r hr; rw [List.mem_singleton.1 hr]; exact ⟨hu.out, by intro v hv; cases hv⟩) (by simp [tot]) _ (RdR.one (r := ⟨u, []⟩) (BlkAt.new wr.drew _ _) (hpr.below (hS0.drew.alloc (Nat.le_refl _) _) (Nat.le_refl _)))).mono ?_
              rintro e w' ⟨rfl, hb⟩
              exact ⟨by rw [may_formed], belS (hS0.drew.alloc (Nat.le_refl _) _) hb⟩
            have hMy := Lib.hid hMy
            generalize mostB m u.mem = mb at *
            go_region_held3 (fun W => (W.cell? ⟨w7.heap.size, 0, none⟩ = some (.int .u64 u.num) ∧ W.cell? ⟨w7.heap.size, 1, none⟩ = some (.int .u64 u.ce) ∧ W.cell? ⟨w7.heap.size, 2, none⟩ = some (.int .i64 u.cr) ∧ W.cell? ⟨w7.heap.size, 3, none⟩ = some (.int .u64 u.mem) ∧ W.cell? ⟨w7.heap.size, 4, none⟩ = some (.slice fa 0 fc)) ∧ W.cell? ⟨w.heap.size + 1, 0, none⟩ = some (.int .u64 u.num) ∧ W.cell? ⟨w.heap.size + 1, 1, none⟩ = some (.int .u64 u.ce) ∧ W.cell? ⟨w.heap.size + 1, 2, none⟩ = some (.int .i64 u.cr) ∧ W.cell? ⟨w.heap.size + 1, 3, none⟩ = some (.int .u64 u.mem))
              (exact hSall.out _ (by first | assumption | exact hS0.drew | exact hS0.drew.alloc (Nat.le_refl _) _))
              (first
                | (go_at_call 16; refine (hMy.out _ _ rfl rfl).mono ?_; rintro e w9 ⟨rfl, hb9⟩)
                | (go_at_call 23; refine (hMst.out _).mono ?_; rintro e w' ⟨rfl, rfl⟩))
            all_goals
              go_wp2
              go_ret
              exact ⟨ret_bool (by simp), belS hEE hb9⟩
          · have h0I : (0 : Int) < k := by omega
            have h0N : 0 < k := by omega
            obtain ⟨b0, b1, b2, b3⟩ := vcells hBr
            have f0 : wr.cell? ⟨w7.heap.size, 0, none⟩ = some (.int .u64 u.num) := hFr.cell rfl
            have f1 : wr.cell? ⟨w7.heap.size, 1, none⟩ = some (.int .u64 u.ce) := hFr.cell rfl
            have f2 : wr.cell? ⟨w7.heap.size, 2, none⟩ = some (.int .i64 u.cr) := hFr.cell rfl
            have f3 : wr.cell? ⟨w7.heap.size, 3, none⟩ = some (.int .u64 u.mem) := hFr.cell rfl
            have f4 : wr.cell? ⟨w7.heap.size, 4, none⟩ = some (.slice fa k fc) := hFr.cell rfl
            have HE := fun W => run_eql_vw W u u
            rw [show veq u u = true from veq_eq.2 rfl] at HE
            have HE := Lib.hid HE
            have hdB : decide ((0 : Int) < (k : Int)) = true := decide_eq_true h0I
            refine wp_region_quiet_lit (by kernel_rfl) (by kernel_rfl) ?_
            iterate 3 go_big_quiet_step (fail)
            refine wpQuiet_agg (by rfl) Try.viewG (.tmp 79) (.tmp 80) _ rfl rfl rfl HE.out ?_
            simp only [Act.put, List.setIfInBounds_toArray, List.set_cons_zero, List.set_cons_succ]
            iterate 18 go_big_quiet_step (fail)
            refine wpQuiet_nil ?_
            rintro _ ⟨nq, rfl⟩
            go_wp2
            go_ret
            exact ⟨ret_bool (by simp), belS hEE (belN hS0 _)⟩
theorem more_law (cs1 cs2 : Array Value) (y : Int) (w : World) (h1 : ∃ x, RRec w cs1.toList x) (h2 : ∃ x, RView w cs2.toList x) (hy : (Lit.int .u64 y).wf = true) :
    Calls Try.prog 4 #[.agg cs1, .agg cs2, .int .u64 y] w fun e w' => e = .returned (.bool true) ∧ Below w.heap.size w w' := by
  obtain ⟨x, hx⟩ := h1
  obtain ⟨u, hu⟩ := h2
  obtain ⟨cs1⟩ := cs1
  obtain ⟨cs2⟩ := cs2
  obtain ⟨pa, pn, pc, e1, hp, hwf, hz⟩ := hx.rc
  obtain ⟨e2, huw⟩ := hu.vw
  simp only at e1 e2
  subst e1
  subst e2
  obtain ⟨m, rfl, hm⟩ := u64n hy
  have hln := hp.len
  exact more_law0 (toRc x).last (toVw u) pa pn pc m (toRc x).pend hm hwf.1 huw hwf.2 (by omega) w hp
end Go.Proofs.Ytnpinkcadkkeoaa
