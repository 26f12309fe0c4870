/- text: configurations, bytes and numbers as words -/
import Derived.Test.YtpkknhhohbobaaaGreatDoorTxtD
import Derived.Test.YtpkknhhohbobaaaGreatDoorG1
import Derived.Test.YtpkknhhohbobaaaGreatDoorApt
import Derived.Test.YtpkknhhohbobaaaGreatDoorG2
import Derived.Lib.ItoaWalk
import Derived.Lib.ItoaLen
import Derived.Lib.QuietBelow
import Derived.Deep.Cut
import Derived.Deep.CutRange
namespace Go.Proofs.YtpkknhhohbobaaaGreatDoor
set_option linter.unusedSimpArgs false
set_option linter.unusedVariables false
open Go.RowKit Go.Sort
theorem pureB {P : Program} {f : FuncId} {args : Array Value} {w : World} {v : Value} (h : Calls P f args w fun e w' => e = .returned v ∧ w = w') : Calls P f args w fun e w' => e = .returned v ∧ Below w.heap.size w w' := h.mono fun _ _ ⟨h1, h2⟩ => ⟨h1, by rw [← h2]; exact Below.refl _ _⟩
theorem alloc_below (w : World) (o : Obj) : Below w.heap.size w (w.alloc o) := (Below.refl _ _).alloc (Nat.le_refl _) o
theorem num_len {n : Nat} (h : n < 18446744073709551616) : (Lib.decDigits n).length ≤ 20 := by
  rw [Lib.decDigits_length]
  exact Lib.nDigits_le20 n h
theorem prW_len {p : Int} (h : prOk p = true) : (prW p).length ≤ 20 := by
  have := prOk_t h
  exact num_len (by omega)
theorem TL.regrown {w : World} (h : TL w) (d : Nat) (os : Array Obj) : TL (grow (redrawn w d) os) := h.on (below_regrown w d os)
set_option maxHeartbeats 1600000 in
set_option maxRecDepth 100000 in
theorem conf_yes (c : TCf) (h : prOk c.rp = true) (he : c.ep < 18446744073709551616) (w : World) (hT : TL w) :
    Calls Tryz.prog 64 #[.agg #[.int .u64 c.ep, .int .i64 c.rp]] w fun e w' => e = .returned (.string (mkB (confW c))) ∧ Below w.heap.size w w' := by
  have hb1 := alloc_below w (.cells #[.int .u64 c.ep, .int .i64 c.rp] 25)
  have hB := BlkAt.new w 25 #[.int .u64 c.ep, .int .i64 c.rp]
  have hT1 := hT.on hb1
  obtain ⟨w1, hw1⟩ : ∃ z, z = w.alloc (.cells #[.int .u64 c.ep, .int .i64 c.rp] 25) := ⟨_, rfl⟩
  rw [← hw1] at hb1 hB hT1
  have c0 : w1.cell? ⟨w.heap.size, 0, none⟩ = some (.int .u64 c.ep) := hB.cell rfl
  have c1 : w1.cell? ⟨w.heap.size, 1, none⟩ = some (.int .i64 c.rp) := hB.cell rfl
  have k0 := cell_regrown c0
  have k1 := cell_regrown c1
  have kN := fun d os => Calls.regrown_of (num_any c.ep he (grow (redrawn w1 d) os) (hT1.regrown d os))
  have kP := fun d os => Calls.regrown_of (proc_yes c.rp h (grow (redrawn w1 d) os) (hT1.regrown d os))
  have hl1 := num_len he
  have hl2 := prW_len h
  have kQ := fun d os => Calls.regrown_of (pureB (pair_any (Lib.decDigits c.ep) (prW c.rp) (by omega) (grow (redrawn w1 d) os)))
  have hz := Lib.hid (show confW c = Lib.decDigits c.ep ++ 46 :: prW c.rp from rfl)
  generalize Lib.decDigits c.ep = a at *
  generalize prW c.rp = b at *
  replace hw1 := Lib.hid hw1
  clear h hT hT1 c0 c1 hB he hl1 hl2
  go_enter Tryz.func64, Tryz.ntmps64
  go_wp2_with (first | (refine wpList_blk_box rfl (.tmp 0) rfl rfl w.heap.size rfl ?_; rw [← hw1.out]))
  refine wp_region_quiet_below (by kernel_rfl) (by kernel_rfl) ?_
  iterate 8 (go_big_quiet_step (first | (with_reducible exact kN _ _) | (with_reducible exact kP _ _) | (with_reducible exact kQ _ _)))
  refine wpQuiet_nil ?_; intro w4' hw'; obtain ⟨⟨dq, osq⟩, hw''⟩ := hw'; subst hw''
  go_wp2
  go_ret
  exact ⟨by rw [hz.out]; rfl, belS hb1 (below_regrown _ _ _)⟩
set_option maxHeartbeats 1600000 in
set_option maxRecDepth 100000 in
theorem conf_no (c : TCf) (h : prOk c.rp = false) (he : c.ep < 18446744073709551616) (w : World) (hT : TL w) :
    Calls Tryz.prog 64 #[.agg #[.int .u64 c.ep, .int .i64 c.rp]] w fun e w' => e = pan 1 ∧ Below w.heap.size w w' := by
  have hb1 := alloc_below w (.cells #[.int .u64 c.ep, .int .i64 c.rp] 25)
  have hB := BlkAt.new w 25 #[.int .u64 c.ep, .int .i64 c.rp]
  have hT1 := hT.on hb1
  obtain ⟨w1, hw1⟩ : ∃ z, z = w.alloc (.cells #[.int .u64 c.ep, .int .i64 c.rp] 25) := ⟨_, rfl⟩
  rw [← hw1] at hb1 hB hT1
  have hS := Lib.hid (fun W (hb : Below w1.heap.size w1 W) => show W.cell? ⟨w.heap.size, 0, none⟩ = some (.int .u64 c.ep) ∧ W.cell? ⟨w.heap.size, 1, none⟩ = some (.int .i64 c.rp) from ⟨(hB.below hb hB.lt).cell rfl, (hB.below hb hB.lt).cell rfl⟩)
  have HN := Lib.hid (num_any c.ep he w1.drew (hT1.on (Below.refl _ _).drew))
  have HP := Lib.hid (fun W => proc_no c.rp h W)
  have hb1d : Below w1.heap.size w1 w1.drew := (Below.refl _ _).drew
  have hst := hS.out _ hb1d
  replace hb1d := Lib.hid hb1d
  replace hw1 := Lib.hid hw1
  replace hb1 := Lib.hid hb1
  clear h hT hT1 hB he
  go_enter Tryz.func64, Tryz.ntmps64
  go_wp2_with (first | (refine wpList_blk_box rfl (.tmp 0) rfl rfl w.heap.size rfl ?_; rw [← hw1.out]))
  refine wp_region_held_drew (S := fun W => W.cell? ⟨w.heap.size, 0, none⟩ = some (.int .u64 c.ep) ∧ W.cell? ⟨w.heap.size, 1, none⟩ = some (.int .i64 c.rp)) (by kernel_rfl) hst ?_
  intro hHeld
  clear hst
  (refine wpAnyH_take (i := 0) (v := ?_) rfl (by kernel_rfl) (by kernel_rfl) (by kernel_rfl) (fun _ _ _ h => h) (Or.inl ⟨by rfl, ?_⟩) (by assumption) ?_; rotate_left; (focus (intro w hSw; clear hSw; go_simp; (try with_reducible rfl))); (try simp only [Act.put, List.getElem_toArray, List.getElem_cons_zero, List.getElem_cons_succ, List.setIfInBounds_toArray, List.set_cons_zero, List.set_cons_succ]))
  (refine wpAnyH_take (i := 1) (v := ?_) rfl (by kernel_rfl) (by kernel_rfl) (by kernel_rfl) (fun _ _ _ h => h) (Or.inl ⟨by rfl, ?_⟩) (by assumption) ?_; rotate_left; (focus (intro w hSw; have hc := hSw.1; clear hSw; go_simp; (try with_reducible rfl))); (try simp only [Act.put, List.getElem_toArray, List.getElem_cons_zero, List.getElem_cons_succ, List.setIfInBounds_toArray, List.set_cons_zero, List.set_cons_succ]))
  (refine wpAnyH_take (i := 3) (v := ?_) rfl (by kernel_rfl) (by kernel_rfl) (by kernel_rfl) (fun _ _ _ h => h) (Or.inl ⟨by rfl, ?_⟩) (by assumption) ?_; rotate_left; (focus (intro w hSw; clear hSw; go_simp; (try with_reducible rfl))); (try simp only [Act.put, List.getElem_toArray, List.getElem_cons_zero, List.getElem_cons_succ, List.setIfInBounds_toArray, List.set_cons_zero, List.set_cons_succ]))
  (refine wpAnyH_take (i := 4) (v := ?_) rfl (by kernel_rfl) (by kernel_rfl) (by kernel_rfl) (fun _ _ _ h => h) (Or.inl ⟨by rfl, ?_⟩) (by assumption) ?_; rotate_left; (focus (intro w hSw; have hc := hSw.2; clear hSw; go_simp; (try with_reducible rfl))); (try simp only [Act.put, List.getElem_toArray, List.getElem_cons_zero, List.getElem_cons_succ, List.setIfInBounds_toArray, List.set_cons_zero, List.set_cons_succ]))
  (refine wpAnyH_ready (rs := [2]) (by kernel_rfl) (by simp) ?_; refine AllReadyH.cons rfl (fun K hK => ?_) AllReadyH.nil)
  go_simp
  refine HN.out.mono ?_
  rintro e w2 ⟨rfl, hb2⟩
  have hb2' := belS hb1d.out hb2
  refine hK.out _ _ (hS.out _ hb2') (fun hHeld => ?_)
  clear hK K
  (refine wpAnyH_ready (rs := [5]) (by kernel_rfl) (by simp) ?_; refine AllReadyH.cons rfl (fun K hK => ?_) AllReadyH.nil)
  go_simp
  refine (HP.out _).mono ?_
  rintro e w3 ⟨rfl, rfl⟩
  exact ⟨rfl, rfl, belS hb1.out hb2'⟩
theorem cU_ints (l : W8) : (l.map fun b => (Value.int .u8 (b.toNat : Int))) = (l.map fun b => (b.toNat : Int)).map (Value.int .u8) := by rw [List.map_map]; rfl
/-- 'string(b)'. -/
theorem wpList_cU_str {P : Program} {w : World} {ops : Array Oper} {rest : List Oper} {o : Oper} {a : Act} {Q : Exit → Act → World → Prop} {t e d : TypeId}
    (hs : P.underlying t = some (.slice e)) (he : P.underlying e = some (.int .u8)) (hd : P.underlying d = some .string) (hgd : o.guard = none) (x : Operand) (ho : o.op = .convert t d x)
    {xa : Option Addr} {m c : Nat} {l : W8} (hx : a.eval x = .slice xa m c) (hr : Rd w 1 xa m c (l.map fun b => .int .u8 (b.toNat : Int)))
    (h : wpList P ops Q rest (a.put o.dst (.string (mkB l))) w) : wpList P ops Q (o :: rest) a w := by
  rw [cU_ints] at hr
  refine wpList_bytes_str hs he hd hgd x ho hx hr (fun S hS _ _ => ?_)
  obtain rfl : S = mkB l := by
    rw [hS.out]
    apply bL_ext
    rw [bL_strOfNums, bL, list_mkB, List.map_map]
    conv => rhs; rw [← List.map_id l]
    exact List.map_congr_left (fun b _ => by simp)
  exact h
theorem idx_mkB (l : W8) (i : Nat) (x : UInt8) (hx : l[i]? = some x) (k : IntKind) (w : World) :
    (Instr.index 9 (.string (mkB l)) (.int k (i : Int))).run Tryz.prog w = .ok (.int .u8 (x.toNat : Int)) w := by
  have hi : i < l.length := (List.getElem?_eq_some_iff.1 hx).1
  rw [run_index_string w 9 (mkB l) k _ Tryz.underlying9, dif_pos ⟨by omega, by rw [mkB_size]; omega⟩]
  have e : ((i : Int)).toNat = i := by omega
  simp only [e]
  have h2 : (mkB l)[i]'(by rw [mkB_size]; exact hi) = x := by
    rw [Lib.getD_at, list_mkB, List.getD_eq_getElem?_getD, hx]
    rfl
  rw [h2]
def digB : ByteArray := ⟨#[48, 49, 50, 51, 52, 53, 54, 55, 56, 57, 97, 98, 99, 100, 101, 102]⟩
theorem digB_at : ∀ d : Fin 16, digB.data.toList[d.val]? = some (hx d.val) := by decide +kernel
theorem idx_dig (d : Nat) (hd : d < 16) (k : IntKind) (w : World) :
    (Instr.index 9 (.string ⟨#[48, 49, 50, 51, 52, 53, 54, 55, 56, 57, 97, 98, 99, 100, 101, 102]⟩) (.int k (d : Int))).run Tryz.prog w = .ok (.int .u8 ((hx d).toNat : Int)) w := by
  have := idx_mkB digB.data.toList d (hx d) (digB_at ⟨d, hd⟩) k w
  rw [mkB_list] at this
  exact this
theorem Tryz.u8E : Elt Tryz.prog 67 5 (.int .u8 0) 1 1 := ⟨by kernel_rfl, by kernel_rfl, rfl, by decide⟩
theorem Tryz.stE : Elt Tryz.prog 56 9 (.string ⟨#[]⟩) 1 16 := ⟨by kernel_rfl, by kernel_rfl, rfl, by decide⟩
def cU (l : W8) : List Value := l.map fun b => .int .u8 (b.toNat : Int)
theorem cU_append (l m : W8) : cU (l ++ m) = cU l ++ cU m := List.map_append
theorem cU_one (l : W8) : ∀ u ∈ cU l, u.oneCell' = true := by
  intro u hu
  obtain ⟨x, _, rfl⟩ := List.mem_map.1 hu
  rfl
theorem and15_fin : ∀ c : Fin 256, bits BinOp.and IntKind.u8 ((c.val : Nat) : Int) 15 = ((c.val % 16 : Nat) : Int) := by decide +kernel
theorem and15 (x : UInt8) : bits BinOp.and IntKind.u8 (x.toNat : Int) 15 = ((x.toNat % 16 : Nat) : Int) := and15_fin ⟨x.toNat, x.toNat_lt⟩
theorem hex_take (s : W8) {i : Nat} (h : i < s.length) : 120 :: (s.take (i + 1)).flatMap hx2 = (120 :: (s.take i).flatMap hx2) ++ [hx (s[i].toNat / 16), hx (s[i].toNat % 16)] := by
  rw [List.take_succ_eq_append_getElem h, List.flatMap_append, List.cons_append]
  simp [hx2]
theorem hx2_flat_len : ∀ s : W8, (s.flatMap hx2).length = 2 * s.length
  | [] => rfl
  | b :: s => by rw [List.flatMap_cons, List.length_append, hx2_flat_len s]; show 2 + _ = 2 * (s.length + 1); omega
theorem hex_len (s : W8) : (hexW s).length = 1 + 2 * s.length := by
  unfold hexW
  rw [List.length_cons, hx2_flat_len]
  omega
theorem own_new1 {w : World} {e : TypeId} {v : Value} : World.ownsRow (w.alloc (.cells #[v] e)) w.heap.size e 1 (.slice (some ⟨w.heap.size, 0, none⟩) 1 1) 1 [v] := by
  refine ⟨rfl, .inr ⟨w.heap.size, 1, #[v], rfl, Nat.le_refl _, BlkAt.new w e #[v], by decide, by decide, rfl, rfl⟩⟩
set_option maxHeartbeats 3200000 in
set_option maxRecDepth 100000 in
theorem bytes_any (s : W8) (hs : s.length ≤ 1048576) (w : World) :
    Calls Tryz.prog 68 #[.string (mkB s)] w fun e w' => e = .returned (.string (mkB (hexW s))) ∧ Below w.heap.size w w' := by
  have hsz := mkB_size s
  have hi0 := Lib.hid (fun (i : Nat) (h : i < s.length) (W : World) => idx_mkB s i s[i] (List.getElem?_eq_getElem h) .i64 W)
  have ho0 := Lib.hid (own_new1 (w := w) (e := 5) (v := .int .u8 120))
  have hb0 := Lib.hid (alloc_below w (.cells #[.int .u8 120] 5))
  generalize hS : mkB s = S at *
  replace hS := Lib.hid hS
  replace hsz := Lib.hid hsz
  go_enter Tryz.func68, Tryz.ntmps68
  go_wp2
  go_loopw [3, 4, 8] (fun bv _ iv wr => ∃ (i : Nat), i ≤ s.length ∧ iv = .int .i64 i ∧ Hid (wr.ownsRow w.heap.size 5 1 bv (1 + 2 * i) (cU (120 :: (s.take i).flatMap hx2))) ∧ Hid (Below w.heap.size w wr)) (fun _ _ iv _ => s.length - (RowKit.intOf iv).toNat)
  case atStart => exact ⟨0, Nat.zero_le _, rfl, ho0, hb0⟩
  case round =>
    clear ho0 hb0
    obtain ⟨i, hi, rfl, ho, hb⟩ := hrel
    obtain ⟨w1, rfl⟩ : ∃ z, z = wr := ⟨_, rfl⟩
    by_cases hin : i < s.length
    · have hiI : (i : Int) < S.size := by rw [hsz.out]; omega
      have hI := hi0.out i hin
      have hnx := Lib.hid (hex_take s hin)
      generalize s[i] = x at *
      have hx1 : x.toNat / 16 < 16 := by have := x.toNat_lt; omega
      have hx2' : x.toNat % 16 < 16 := by omega
      have hD1 := fun W => idx_dig (x.toNat / 16) hx1 .u8 W
      have hD2 := fun W => idx_dig (x.toNat % 16) hx2' .u8 W
      generalize hx (x.toNat / 16) = d1 at *
      generalize hx (x.toNat % 16) = d2 at *
      obtain ⟨q1, hq1⟩ : ∃ z, z = x.toNat / 16 := ⟨_, rfl⟩
      obtain ⟨q2, hq2⟩ : ∃ z, z = x.toNat % 16 := ⟨_, rfl⟩
      rw [← hq1] at hD1
      rw [← hq2] at hD2
      replace hq1 := Lib.hid (show (x.toNat : Int) / 16 = q1 from by omega)
      replace hq2 := Lib.hid (show bits BinOp.and IntKind.u8 (x.toNat : Int) 15 = q2 from by rw [and15 x]; omega)
      have hod : World.ownsRow w1.drew _ _ _ _ _ _ := own_belowB ho.out ((Below.refl w1.heap.size w1).drew)
      have hbd := Lib.hid (hb.out.drew)
      obtain ⟨a, c, rfl, _⟩ := Rd.own hod
      replace hod := Lib.hid hod
      go_upto_region 5 with (fail)
      refine wp_region_held_drew (S := fun _ => True) (by kernel_rfl) trivial ?_
      intro hHeld
      (refine wpAnyH_take (i := 0) (v := ?_) rfl (by kernel_rfl) (by kernel_rfl) (by kernel_rfl) (fun _ _ _ h => h) (Or.inl ⟨by rfl, ?_⟩) (by assumption) ?_; rotate_left; (focus (intro w hSw; clear hSw; go_simp; (try with_reducible rfl))); (try simp only [Act.put, List.getElem_toArray, List.getElem_cons_zero, List.getElem_cons_succ, List.setIfInBounds_toArray, List.set_cons_zero, List.set_cons_succ]))
      (refine wpAnyH_take (i := 1) (v := ?_) rfl (by kernel_rfl) (by kernel_rfl) (by kernel_rfl) (fun _ _ _ h => h) (Or.inl ⟨by rfl, ?_⟩) (by assumption) ?_; rotate_left; (focus (intro w hSw; clear hSw; go_simp; (try with_reducible rfl))); (try simp only [Act.put, List.getElem_toArray, List.getElem_cons_zero, List.getElem_cons_succ, List.setIfInBounds_toArray, List.set_cons_zero, List.set_cons_succ]))
      (refine wpAnyH_take (i := 2) (v := ?_) rfl (by kernel_rfl) (by kernel_rfl) (by kernel_rfl) (fun _ _ _ h => h) (Or.inl ⟨by rfl, ?_⟩) (by assumption) ?_; rotate_left; (focus (intro w hSw; clear hSw; go_simp; (try with_reducible rfl))); (try simp only [Act.put, List.getElem_toArray, List.getElem_cons_zero, List.getElem_cons_succ, List.setIfInBounds_toArray, List.set_cons_zero, List.set_cons_succ]))
      (refine wpAnyH_take (i := 3) (v := ?_) rfl (by kernel_rfl) (by kernel_rfl) (by kernel_rfl) (fun _ _ _ h => h) (Or.inl ⟨by rfl, ?_⟩) (by assumption) ?_; rotate_left; (focus (intro w hSw; clear hSw; go_simp; (try with_reducible rfl))); (try simp only [Act.put, List.getElem_toArray, List.getElem_cons_zero, List.getElem_cons_succ, List.setIfInBounds_toArray, List.set_cons_zero, List.set_cons_succ]))
      (refine wpAnyH_take (i := 4) (v := .int .u8 (q1 : Int)) rfl (by kernel_rfl) (by kernel_rfl) (by kernel_rfl) (fun _ _ _ h => h) (Or.inl ⟨by rfl, ?_⟩) (by assumption) ?_; focus (intro w hSw; clear hSw; go_simp; exact hq1.out); (try simp only [Act.put, List.getElem_toArray, List.getElem_cons_zero, List.getElem_cons_succ, List.setIfInBounds_toArray, List.set_cons_zero, List.set_cons_succ]))
      (refine wpAnyH_take (i := 5) (v := ?_) rfl (by kernel_rfl) (by kernel_rfl) (by kernel_rfl) (fun _ _ _ h => h) (Or.inl ⟨by rfl, ?_⟩) (by assumption) ?_; rotate_left; (focus (intro w hSw; clear hSw; go_simp; (try with_reducible rfl))); (try simp only [Act.put, List.getElem_toArray, List.getElem_cons_zero, List.getElem_cons_succ, List.setIfInBounds_toArray, List.set_cons_zero, List.set_cons_succ]))
      (refine wpAnyH_take (i := 6) (v := ?_) rfl (by kernel_rfl) (by kernel_rfl) (by kernel_rfl) (fun _ _ _ h => h) (Or.inl ⟨by rfl, ?_⟩) (by assumption) ?_; rotate_left; (focus (intro w hSw; clear hSw; go_simp; (try with_reducible rfl))); (try simp only [Act.put, List.getElem_toArray, List.getElem_cons_zero, List.getElem_cons_succ, List.setIfInBounds_toArray, List.set_cons_zero, List.set_cons_succ]))
      (refine wpAnyH_take (i := 7) (v := ?_) rfl (by kernel_rfl) (by kernel_rfl) (by kernel_rfl) (fun _ _ _ h => h) (Or.inl ⟨by rfl, ?_⟩) (by assumption) ?_; rotate_left; (focus (intro w hSw; clear hSw; go_simp; (try with_reducible rfl))); (try simp only [Act.put, List.getElem_toArray, List.getElem_cons_zero, List.getElem_cons_succ, List.setIfInBounds_toArray, List.set_cons_zero, List.set_cons_succ]))
      (refine wpAnyH_take (i := 8) (v := ?_) rfl (by kernel_rfl) (by kernel_rfl) (by kernel_rfl) (fun _ _ _ h => h) (Or.inl ⟨by rfl, ?_⟩) (by assumption) ?_; rotate_left; (focus (intro w hSw; clear hSw; go_simp; (try with_reducible rfl))); (try simp only [Act.put, List.getElem_toArray, List.getElem_cons_zero, List.getElem_cons_succ, List.setIfInBounds_toArray, List.set_cons_zero, List.set_cons_succ]))
      (refine wpAnyH_take (i := 9) (v := .int .u8 (q2 : Int)) rfl (by kernel_rfl) (by kernel_rfl) (by kernel_rfl) (fun _ _ _ h => h) (Or.inl ⟨by rfl, ?_⟩) (by assumption) ?_; focus (intro w hSw; clear hSw; go_simp; exact hq2.out); (try simp only [Act.put, List.getElem_toArray, List.getElem_cons_zero, List.getElem_cons_succ, List.setIfInBounds_toArray, List.set_cons_zero, List.set_cons_succ]))
      (refine wpAnyH_take (i := 10) (v := ?_) rfl (by kernel_rfl) (by kernel_rfl) (by kernel_rfl) (fun _ _ _ h => h) (Or.inl ⟨by rfl, ?_⟩) (by assumption) ?_; rotate_left; (focus (intro w hSw; clear hSw; go_simp; (try with_reducible rfl))); (try simp only [Act.put, List.getElem_toArray, List.getElem_cons_zero, List.getElem_cons_succ, List.setIfInBounds_toArray, List.set_cons_zero, List.set_cons_succ]))
      (refine wpAnyH_ready (rs := [11]) (by kernel_rfl) (by simp) ?_; refine AllReadyH.cons rfl (fun K hK => ?_) AllReadyH.nil)
      refine step_buildSlice (some 22) rfl rfl 67 5 2 #[(0, .tmp 16), (1, .tmp 21)] rfl Tryz.u8E (by decide) (by decide) #[.int .u8 (d1.toNat : Int), .int .u8 (d2.toNat : Int)] ?_ ?_
      · kernel_rfl
      refine hK.out _ _ trivial (fun hHeld => ?_)
      clear hK K
      have hb3 := (Below.refl w1.drew.heap.size w1.drew).alloc (Nat.le_refl _) (.cells #[.int .u8 (d1.toNat : Int), .int .u8 (d2.toNat : Int)] 5)
      have ho3 := own_belowB hod.out hb3
      have hr3 : Rd (w1.drew.alloc (.cells #[.int .u8 (d1.toNat : Int), .int .u8 (d2.toNat : Int)] 5)) 1 (some ⟨w1.drew.heap.size, 0, none⟩) 2 2 (cU [d1, d2]) := Rd.lit rfl rfl (by decide)
      have hb3' := hbd.out.alloc hbd.out.size (.cells #[.int .u8 (d1.toNat : Int), .int .u8 (d2.toNat : Int)] 5)
      (refine wpAnyH_ready (rs := [12]) (by kernel_rfl) (by simp) ?_; refine AllReadyH.cons rfl (fun K hK => ?_) AllReadyH.nil)
      refine step_append_apart Tryz.u8E rfl (.tmp 11) (.tmp 22) rfl rfl ho3 rfl hr3 (by decide) (cU_one _) (by unfold maxLen; omega) (by omega) hb3'.size ?_
      intro v' w4 ho4 hg4 hv4
      have hb4 := Lib.hid (hb3'.grown hg4 hb3'.size (fun k hk => (ho3.lt k hk).1))
      refine hK.out _ _ trivial (fun hHeld => ?_)
      rw [← cU_append, ← hnx.out] at ho4
      replace ho4 := Lib.hid ho4
      clear hK K hb3 ho3 hr3 hb3' hg4 hv4
      (refine wpAnyH_take (i := 13) (v := ?_) rfl (by kernel_rfl) (by kernel_rfl) (by kernel_rfl) (fun _ _ _ h => h) (Or.inl ⟨by rfl, ?_⟩) (by assumption) ?_; rotate_left; (focus (intro w hSw; clear hSw; go_simp; (try with_reducible rfl))); (try simp only [Act.put, List.getElem_toArray, List.getElem_cons_zero, List.getElem_cons_succ, List.setIfInBounds_toArray, List.set_cons_zero, List.set_cons_succ]))
      refine wpAnyH_done (by kernel_rfl) ?_ _
      go_wp2
      go_roundw
      case rel => exact ⟨i + 1, by omega, by go_num, Lib.hid (by rw [show 1 + 2 * (i + 1) = 1 + 2 * i + 2 by omega]; exact ho4.out), hb4⟩
      case measure => simp [RowKit.intOf]; omega
    · have hiI : ¬ (i : Int) < S.size := by rw [hsz.out]; omega
      obtain rfl : i = s.length := by omega
      have hho := ho.out
      rw [List.take_length] at hho
      have hxl := hex_len s
      obtain ⟨a, c, rfl, hrd⟩ := Rd.own hho
      have hz := Lib.hid (show (120 :: s.flatMap hx2 : W8) = hexW s from rfl)
      rw [hz.out] at hrd
      clear ho hho
      go_wp2_with (first | (refine wpList_cU_str Tryz.underlying67 Tryz.underlying5 Tryz.underlying9 rfl (.tmp 25) rfl rfl hrd ?_))
      go_ret
      exact ⟨rfl, hb.out⟩
end Go.Proofs.YtpkknhhohbobaaaGreatDoor
