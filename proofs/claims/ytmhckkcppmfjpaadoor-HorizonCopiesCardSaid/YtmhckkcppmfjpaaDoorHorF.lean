/- the horizon: the walk of slices.DeleteFunc with count's function -/
import Derived.Test.YtmhckkcppmfjpaaDoorHorE
namespace Go.Proofs.YtmhckkcppmfjpaaDoor
open Go.RowKit Go.Sort

def pmN (c : Nat) (x : Pm) : Bool := !pmQ c x
theorem RdP.ofOwn {w : World} {B g n cp : Nat} {e : TypeId} {m : List Pm} (h : w.ownsRow B e 2 (.slice (some ⟨g, 0, none⟩) n cp) n (m.flatMap pmF)) : RdP w (some ⟨g, 0, none⟩) n cp m := by
  obtain ⟨_, _, e, h⟩ := Rd.own h
  simp only [Value.slice.injEq, true_and] at e
  obtain ⟨rfl, rfl⟩ := e
  exact h
section
variable {w : World} {cb b off h c : Nat} {cs : Array Value}
set_option maxHeartbeats 800000 in
theorem del_none (a : Option Addr) (n cp : Nat) (l : List Pm) (hl : PmsOk l) (hc : c < 4294967296) (hno : ∀ x ∈ l, pmQ c x = false) (hr : RdP w a n cp l) (hB : BlkAt w cb 54 #[.pointer (some ⟨b, off, none⟩)]) (hM : MkAt w b off cs h c) :
    Calls Tryd.prog 30 #[.slice a n cp, .func (Fn.func 31) #[] #[.pointer (some ⟨cb, 0, none⟩)]] w fun e w' => e = .returned (.slice a n cp) ∧ Below w.heap.size w w' := by
  have HI := Lib.hid (idx_none a n cp l hl hc hno hr hB hM)
  go_enter Tryd.func30, Tryd.ntmps30
  go_wp2_with fail
  refine HI.out.mono ?_
  rintro e w' ⟨rfl, hb⟩
  go_wp2
  go_ret
  exact ⟨rfl, hb⟩
theorem stored2 {B g n cp : Nat} {e : TypeId} {m : List Pm} {W : World} (o5 : W.ownsRow B e 2 (.slice (some ⟨g, 0, none⟩) n cp) n (m.flatMap pmF)) (i : Nat) (him : i < m.length) (x : Pm) :
    ((W.setCell ⟨g, i * 2, none⟩ (.int .u64 x.st)).setCell ⟨g, i * 2 + 1, none⟩ (.int .u32 x.sent)).ownsRow B e 2 (.slice (some ⟨g, 0, none⟩) n cp) n ((m.set i x).flatMap pmF) := by
  have s3 := ((o5.stored (i * 2) (.int .u64 x.st)).1.stored (i * 2 + 1) (.int .u32 x.sent)).1
  rw [flat_setP x m i him] at s3
  exact s3
theorem KpO.setCell {O : Nat → Prop} {x y : World} (k : KpO O x y) (a : Addr) (ha : O a.block) (u : Value) : KpO O x (y.setCell a u) :=
  k.trans (KpO.ofKp ((Kp.refl a.block y).setCell a rfl u) ha) (fun g hg => .inl hg)
set_option maxHeartbeats 3200000 in
set_option maxRecDepth 100000 in
theorem del_some (B g n cp : Nat) (l : List Pm) (i0 : Nat) (hl : PmsOk l) (hn : n ≤ 1000000) (hc : c < 4294967296) (hh : h < 18446744073709551616) (hcg : cb ≠ g) (hcb : cb ≠ b) (hgb : g ≠ b)
    (hown : w.ownsRow B 56 2 (.slice (some ⟨g, 0, none⟩) n cp) n (l.flatMap pmF)) (hB : BlkAt w cb 54 #[.pointer (some ⟨b, off, none⟩)]) (hM : MkAt w b off cs h c) (hi0 : l.findIdx? (pmQ c) = some i0) :
    Calls Tryd.prog 30 #[.slice (some ⟨g, 0, none⟩) n cp, .func (Fn.func 31) #[] #[.pointer (some ⟨cb, 0, none⟩)]] w fun e w' => ∃ k, e = .returned (.slice (some ⟨g, 0, none⟩) k cp) ∧ k = (l.filter (pmN c)).length ∧ w'.ownsRow B 56 2 (.slice (some ⟨g, 0, none⟩) k cp) k ((l.filter (pmN c)).flatMap pmF) ∧ MkAt w' b off cs (hfold c h l) c ∧ KpO (fun k => k = b ∨ k = g) w w' := by
  obtain ⟨hlt0, hq0, hpre⟩ := List.findIdx?_eq_some_iff_getElem.1 hi0
  have hr : RdP w (some ⟨g, 0, none⟩) n cp l := RdP.ofOwn hown
  have hln := hr.len
  have hcn : n ≤ cp := hr.1.2.1
  have hpre' : ∀ i (hi : i < i0), pmQ c (l[i]'(by omega)) = false := fun i hi => by simpa using hpre i hi
  have HI := idx_some (some ⟨g, 0, none⟩) n cp l i0 hl hc hh hlt0 hq0 hpre' hr hB hM
  have hi0n : i0 < n := by omega
  have hall : ∀ x ∈ l.take i0, pmQ c x = false := by
    intro v hv
    obtain ⟨j, hj, rfl⟩ := List.mem_iff_getElem.1 hv
    rw [List.length_take] at hj
    rw [List.getElem_take]
    exact hpre' j (by omega)
  have hf0 : (l.take (i0 + 1)).filter (pmN c) = l.take i0 := by
    rw [filter_take_s _ _ _ hlt0, if_neg (by rw [pmN, hq0]; decide), List.filter_eq_self]
    intro v hv
    rw [pmN, hall v hv]; rfl
  have hh0 : hfold c h (l.take (i0 + 1)) = max h l[i0].st := by rw [hfold_take _ _ _ _ hlt0, if_pos hq0, hfold_none _ _ _ hall]
  rw [← hh0] at HI
  replace HI := Lib.hid HI
  have HF0 := Lib.hid hf0
  have hlH := Lib.hid hln
  have hneg : ((i0 : Int) == -1) = false := by rw [beq_eq_false_iff_ne]; omega
  obtain ⟨h0, H0⟩ : ∃ z, Hid (hfold c h (l.take (i0 + 1)) = z) := ⟨_, Lib.hid rfl⟩
  rw [H0.out] at HI
  clear hi0 hq0 hpre hpre' hall hf0 hh0 hr hln
  go_enter Tryd.func30, Tryd.ntmps30
  go_wp2_with fail
  refine HI.out.mono ?_
  rintro e w1 ⟨rfl, hM1, hk1⟩
  have ho1 := own_keep hown fun k hk hlt => hk1.block k hlt (by cases hk; exact hgb)
  have hB1 := hk1.blk hB hcb
  have hK1 := KpO.ofKp (O := fun k => k = b ∨ k = g) hk1 (.inl rfl)
  clear HI hown hB hM hk1
  go_wp2
  go_loopw [5, 6, 7] (fun si sj _ wr => ∃ (i j z : Nat) (m : List Pm), i < j ∧ j ≤ n ∧ si = .int .i64 i ∧ sj = .int .i64 j ∧ m.length = n ∧ Hid (m.take i = (l.take j).filter (pmN c)) ∧ Hid (m.drop j = l.drop j) ∧ Hid (hfold c h (l.take j) = z) ∧ wr.ownsRow B 56 2 (.slice (some ⟨g, 0, none⟩) n cp) n (m.flatMap pmF) ∧ BlkAt wr cb 54 #[.pointer (some ⟨b, off, none⟩)] ∧ MkAt wr b off cs z c ∧ KpO (fun k => k = b ∨ k = g) w wr) (fun _ sj _ _ => n - (intOf sj).toNat)
  case atStart => exact ⟨i0, i0 + 1, h0, l, by omega, by omega, rfl, by go_num, hlH.out, HF0.out.symm, rfl, H0, ho1, hB1, hM1, hK1⟩
  case round =>
    clear ho1 hM1 hK1 hB1
    obtain ⟨i, j, z, m, hij, hjn, rfl, rfl, hm, HK, HD, HZ, ho, hBr, hMr, hKr⟩ := hrel
    have hmn := Lib.hid hm
    have hm1 : n ≤ m.length := Nat.le_of_eq hm.symm
    clear hm
    by_cases hlt : j < n
    · have hjl : j < l.length := by rw [hlH.out]; exact hlt
      have hjm : j < m.length := by rw [hmn.out]; exact hlt
      have him : i < m.length := by rw [hmn.out]; omega
      obtain ⟨d0, d1⟩ := (RdP.ofOwn ho).at j hjm
      have hmj : m[j] = l[j] := by
        have h1 : (m.drop j)[0]? = (l.drop j)[0]? := by rw [HD.out]
        rw [List.getElem?_drop, List.getElem?_drop, Nat.add_zero, List.getElem?_eq_getElem hjm, List.getElem?_eq_getElem hjl] at h1
        exact Option.some.inj h1
      have hKs := filter_take_s (pmN c) l j hjl
      have hZs := hfold_take c h l j hjl
      have hDs : m.drop (j + 1) = l.drop (j + 1) := by rw [← List.drop_drop, HD.out, List.drop_drop]
      rw [hmj] at d0 d1
      rw [← HK.out] at hKs
      rw [HZ.out] at hZs
      have hzlt : z < 18446744073709551616 := by rw [← HZ.out]; exact hfold_lt (hl.take j) hh
      have hgz := (ho.lt g rfl).2
      have hjI : (j : Int) < n := by omega
      have HD2 := Lib.hid hDs
      have hxst := hl.st _ (List.getElem_mem hjl)
      have hxse := hl.sent _ (List.getElem_mem hjl)
      generalize hx : l[j] = x at *
      clear hx hmj hDs
      simp only [Nat.zero_add] at d0 d1
      have hbx : Below wr.heap.size wr (wr.alloc (.cells #[.int .u64 x.st, .int .u32 x.sent] 56)) := (Below.refl _ _).alloc (Nat.le_refl _) _
      have o2 := own_belowB ho hbx
      have B2 := hBr.below hbx hBr.lt
      have M2 := hMr.below hbx
      have K2 : KpO (fun k => k = b ∨ k = g) w _ := hKr.trans (KpO.ofBelow hbx) (fun k hk => .inl hk)
      have hV := BlkAt.new wr 56 #[.int .u64 x.st, .int .u32 x.sent]
      clear ho hBr hMr hKr hbx
      cases hdl : pmQ c x with
      | true =>
        have HDL := Lib.hid (cnt_yes x hxse hc hxst hzlt hdl B2 M2)
        have HK2 := Lib.hid (hKs.trans (if_neg (by rw [pmN, hdl]; decide)))
        have HZ2 := Lib.hid (hZs.trans (if_pos hdl))
        clear hKs hZs hdl
        go_wp2_with fail
        refine HDL.out.mono ?_
        rintro e w5 ⟨rfl, M5, k5⟩
        have o5 := own_keep o2 fun k hk hlt => k5.block k hlt (by cases hk; exact hgb)
        have B5 := k5.blk B2 hcb
        have K5 := K2.trans (KpO.ofKp (O := fun k => k = b ∨ k = g) k5 (.inl rfl)) (fun k hk => .inl hk)
        clear d0 d1 HDL o2 B2 M2 K2
        go_wp2
        go_roundw
        case rel => exact ⟨i, j + 1, max z x.st, m, by omega, by omega, rfl, by go_num, hmn.out, HK2.out.symm, HD2.out, HZ2, o5, B5, M5, K5⟩
        case measure => simp [intOf]; omega
      | false =>
        have HDL := Lib.hid (cnt_no x hxse hc hdl B2 M2)
        have HK2 := Lib.hid (hKs.trans (if_pos (by rw [pmN, hdl]; rfl)))
        have HZ2 := Lib.hid (hZs.trans (if_neg (by rw [hdl]; decide)))
        clear hKs hZs hdl
        go_wp2_with fail
        refine HDL.out.mono ?_
        rintro e w5 ⟨rfl, hb5⟩
        have o5 := own_belowB o2 hb5
        have B5 := B2.below hb5 B2.lt
        have M5 := M2.below hb5
        have K5 : KpO (fun k => k = b ∨ k = g) w _ := K2.trans (KpO.ofBelow hb5) (fun k hk => .inl hk)
        have V5 := hV.below hb5 hV.lt
        have x0 : w5.cell? ⟨wr.heap.size, 0, none⟩ = some (.int .u64 x.st) := V5.cell rfl
        have x1 : w5.cell? ⟨wr.heap.size, 1, none⟩ = some (.int .u32 x.sent) := V5.cell rfl
        obtain ⟨t0, t1⟩ := (RdP.ofOwn o5).at i him
        simp only [Nat.zero_add] at t0 t1
        have f0 := o5.frozenAt (i * 2)
        have f1 := o5.frozenAt (i * 2 + 1)
        have hiI : (i : Int) < n := by omega
        have S3 := Lib.hid (stored2 o5 i him x)
        have k3 : Kp g w5 ((w5.setCell ⟨g, i * 2, none⟩ (.int .u64 x.st)).setCell ⟨g, i * 2 + 1, none⟩ (.int .u32 x.sent)) := ((Kp.refl g w5).setCell _ rfl _).setCell _ rfl _
        have hVg : cb ≠ g := hcg
        have B3 := Lib.hid (k3.blk B5 hcg)
        have M3 := Lib.hid (show MkAt ((w5.setCell ⟨g, i * 2, none⟩ (.int .u64 x.st)).setCell ⟨g, i * 2 + 1, none⟩ (.int .u32 x.sent)) b off cs z c from ⟨k3.blk M5.blk hgb.symm, M5.lt, M5.came⟩)
        have K3 := Lib.hid (K5.trans (KpO.ofKp (O := fun k => k = b ∨ k = g) k3 (.inr rfl)) (fun k hk => .inl hk))
        have HM := Lib.hid (show (m.set i x).length = n ∧ (m.set i x).take (i + 1) = (l.take (j + 1)).filter (pmN c) ∧ (m.set i x).drop (j + 1) = l.drop (j + 1) from ⟨by rw [List.length_set]; exact hmn.out, by
          rw [HK2.out, List.take_succ_eq_append_getElem (by rw [List.length_set]; exact him), List.take_set_of_le (Nat.le_refl _), List.getElem_set_self], by
          rw [List.drop_set_of_lt (by omega)]; exact HD2.out⟩)
        clear d0 d1 HDL o2 B2 M2 K2 k3
        go_wp2
        go_roundw
        case rel => exact ⟨i + 1, j + 1, z, m.set i x, by omega, by omega, by go_num, by go_num, HM.out.1, HM.out.2.1, HM.out.2.2, HZ2, S3.out, B3.out, M3.out, K3.out⟩
        case measure => simp [intOf]; omega
    · obtain rfl : j = n := by omega
      have him : i < m.length := by omega
      have hrm := RdP.ofOwn ho
      have hcl := fun ty => run_clear_pm wr ty g (i * 2) (j - i) (cp - i) (by omega) (fun q hq => by
        have := Rd.cells hrm (i * 2 + q) (by have : i * 2 + (j - i) * 2 = j * 2 := by rw [← Nat.add_mul]; congr 1; omega
                                             omega)
        rw [Nat.zero_add] at this
        rw [this]; rfl) (fun q => ho.frozenAt q)
      have hE := own_setCells (i * 2) (Builtin.zeroCells #[.int .u64 0, .int .u32 0] (j - i)).toList (i * 2) wr _ (Nat.le_refl _) ho
      obtain ⟨ys, oy, hty, gy⟩ := hE
      have op := own_prefix oy i (by omega)
      have h1 : l.take j = l := List.take_of_length_le (by have := hlH.out; omega)
      have HT := Lib.hid (show ys.take (i * 2) = (l.filter (pmN c)).flatMap pmF from by
        have h2 := HK.out
        rw [h1] at h2
        rw [hty, ← h2]
        have h3 : m.flatMap pmF = (m.take i).flatMap pmF ++ (m.drop i).flatMap pmF := by rw [← List.flatMap_append, List.take_append_drop]
        have h4 : ((m.take i).flatMap pmF).length = i * 2 := by rw [flatMap_len pmF_len, List.length_take]; congr 1; omega
        rw [h3, List.take_append_of_le_length (by omega), List.take_of_length_le (by omega)])
      have HLn := Lib.hid (show i = (l.filter (pmN c)).length from by
        have h2 := congrArg List.length HK.out
        rw [h1, List.length_take] at h2
        omega)
      have HZ3 := Lib.hid (show z = hfold c h l from by rw [← HZ.out, h1])
      have k3 : Kp g wr (wr.setCells g (i * 2) (Builtin.zeroCells #[.int .u64 0, .int .u32 0] (j - i)).toList) := ⟨gy.os, gy.tape, gy.output, gy.size, fun k hk hne => gy.block k hk (fun e => hne (Option.some.inj e))⟩
      have M3 : MkAt _ b off cs z c := ⟨k3.blk hMr.blk hgb.symm, hMr.lt, hMr.came⟩
      have K3 := hKr.trans (KpO.ofKp (O := fun k => k = b ∨ k = g) k3 (.inr rfl)) (fun k hk => .inl hk)
      generalize wr.setCells g (i * 2) (Builtin.zeroCells #[.int .u64 0, .int .u32 0] (j - i)).toList = wz at *
      clear hty hrm ho gy oy k3 h1 hBr hMr hKr
      go_wp2
      go_ret
      exact ⟨_, rfl, HLn.out, by rw [← HT.out]; exact op, by rw [← HZ3.out]; exact M3, K3⟩
end
end Go.Proofs.YtmhckkcppmfjpaaDoor
