/- text: the reference's field (written by gen_tm.py) -/
import Derived.Test.YtpkknhhohbobaaaGreatDoorTxtLQ
namespace Go.Proofs.YtpkknhhohbobaaaGreatDoor
set_option linter.unusedSimpArgs false
set_option linter.unusedVariables false
open Go.RowKit Go.Sort
theorem prR_ok {p : Int} (h : prOk p = true) : prR p = prW p := if_pos h
theorem confW_ne (c : TCf) : confW c ≠ [] := fun e => num_ne c.ep (List.append_eq_nil_iff.1 e).1
theorem nameW_ne (n : TNm) : nameW n ≠ [] := fun e => num_ne n.proc.toNat (List.append_eq_nil_iff.1 e).1
theorem prW_ne (p : Int) : prW p ≠ [] := num_ne _
theorem hexW_ne (s : W8) : hexW s ≠ [] := fun e => by cases e
theorem depsW_ne (s : List Nat) : depsW s ≠ [] := fun e => by cases e
theorem confR_len {c : TCf} (he : c.ep < 18446744073709551616) : (Lib.decDigits c.ep ++ 46 :: prR c.rp).length ≤ 50 := by
  have := num_len he
  have := prR_len c.rp
  rw [List.length_append, List.length_cons]
  omega
/-- Rows off a block. -/
structure EvN (b : Nat) (da : Option Addr) (dn : Nat) (na : Option Addr) (nn : Nat) : Prop where
  d : dn ≠ 0 → ∀ g off, da = some ⟨g, off, none⟩ → g ≠ b
  n : nn ≠ 0 → ∀ g off, na = some ⟨g, off, none⟩ → g ≠ b
theorem Kp.rd0 {b : Nat} {x y : World} {size n c : Nat} {a : Option Addr} {xs : List Value} (k : Kp b x y) (h : Rd x size a n c xs) (hb : n ≠ 0 → ∀ g off, a = some ⟨g, off, none⟩ → g ≠ b) : Rd y size a n c xs := by
  by_cases h0 : n = 0
  · exact ⟨h.1, .inl h0⟩
  · exact k.rd h (hb h0)
section
variable {b n : Nat} {w w' : World} {ws : List W8} {ok : Bool} {x : TEv} {da na : Option Addr} {dn dc nn nc : Nat}
theorem LnT.no (h : LnT w b ws ok n) : LnT (w.setCell ⟨b, 1, none⟩ (.bool false)) b ws false n := by
  obtain ⟨s, h1, h2, h3⟩ := h
  exact ⟨s, h1.set 1 _, (fun e => by cases e), h3⟩
theorem LnT.cells (h : LnT w b ws ok n) : w.cell? ⟨b, 1, none⟩ = some (.bool ok) ∧ w.frozen? ⟨b, 1, none⟩ = false := by
  obtain ⟨s, h1, h2, h3⟩ := h
  exact ⟨h1.cell rfl, h1.fz 1⟩
theorem EvR.kp (h : EvR w x da dn dc na nn nc) (hb : EvN b da dn na nn) (k : Kp b w w') : EvR w' x da dn dc na nn nc := ⟨h.wf, k.rd0 h.dr hb.d, k.rd0 h.nr hb.n, h.dn, h.nn, h.pay, h.st⟩
/-- What a letter leaves. -/
def PostF (f : Lt) (x : TEv) (b : Nat) (ws : List W8) (ok : Bool) (n : Nat) (w : World) (e : Ending) (w' : World) : Prop := e = .returned (.tuple #[]) ∧ (∃ n', n' ≤ n + 1048586 ∧ LnT w' b (ws ++ fieldW f x) (ok && fieldOk f x) n') ∧ Kp b w w'
theorem postF {f : Lt} {ws' : List W8} {ok' : Bool} {n' : Nat} (h : LnT w' b ws' ok' n') (hw : ws' = ws ++ fieldW f x) (ho : ok' = (ok && fieldOk f x)) (hn : n' ≤ n + 1048586) (k : Kp b w w') : PostF f x b ws ok n w (.returned (.tuple #[])) w' := by
  subst hw
  subst ho
  exact ⟨rfl, ⟨n', hn, h⟩, k⟩
set_option maxHeartbeats 6400000 in
set_option maxRecDepth 100000 in
theorem rf_c (hE : EvR w x da dn dc na nn nc) (hN : EvN b da dn na nn) (h : LnT w b ws ok n) (hn : n ≤ 3145728) :
    Calls Tryz.prog 42 #[.pointer (some ⟨b, 0, none⟩), .int .u8 99, .agg (evC x da dn dc na nn nc)] w (PostF .c x b ws ok n w) := by
  have hlt := h.lt
  have hb1 := alloc_below w (.cells (evC x da dn dc na nn nc) 34)
  have hM := BlkAt.new w 34 (evC x da dn dc na nn nc)
  obtain ⟨w1, hw1⟩ : ∃ z, z = w.alloc (.cells (evC x da dn dc na nn nc) 34) := ⟨_, rfl⟩
  rw [← hw1] at hb1 hM
  obtain ⟨mb, hmb⟩ : ∃ z, z = w.heap.size := ⟨_, rfl⟩
  rw [← hmb] at hM
  have hmbb : mb ≠ b := by omega
  have hL1 := Lib.hid (h.below hb1)
  have kb := Lib.hid (Kp.ofBelow (b := b) hb1)
  have hE1 := Lib.hid (hE.below hb1)
  have hM1 := Lib.hid hM
  obtain ⟨⟨f1, f2, f3⟩, ⟨f4, f5, f6⟩, ⟨m1, m2, m3⟩, f8⟩ := hE.wf
  have hcC := Tryz.cfL x.conf.ep x.conf.rp
  have hcN := Tryz.cfL x.new.ep x.new.rp
  have hcV := Tryz.cfL x.vconf.ep x.vconf.rp
  have hpay := hE.pay
  have hstl := hE.st
  have hdl := Lib.hid hE.deps_len
  have hnl := Lib.hid hE.nlen
  have hdn := hE.dn
  have hnn := hE.nn
  replace hw1 := Lib.hid hw1
  replace hmb := Lib.hid hmb
  have hEw := Lib.hid hE
  clear hE h hM hb1
  have r1 := ev_conf hM1.out
  have HC := Lib.hid (rconf_any x.conf f1 hL1.out)
  have hcl := confR_len (c := x.conf) f1
  go_enter Tryz.func42, Tryz.ntmps42
  go_wp2_with (first
    | (refine wpList_blk_box rfl (.tmp 2) rfl rfl mb hmb.out.symm ?_; rw [← hw1.out])
    | (refine wpList_load_mid rfl _ (.tmp 14) rfl mb 2 rfl [.int .u64 x.conf.ep, .int .i64 x.conf.rp] _ r1 Tryz.underlying25 rfl hcC ?_))
  refine HC.out.mono ?_
  rintro e w2 ⟨rfl, hL2, k2⟩
  have HS := Lib.hid (rsay_any (Lib.decDigits x.conf.ep ++ 46 :: prR x.conf.rp) (confW x.conf) hL2 (by omega) (fun e => by
    rw [Bool.and_eq_true] at e
    exact ⟨by rw [prR_ok e.2]; rfl, confW_ne _⟩) (by omega))
  have k3 := Lib.hid (kb.out.trans k2)
  clear HC hL2 k2 r1
  go_wp2_with fail
  refine HS.out.mono ?_
  rintro e w3 ⟨rfl, hL3, k4⟩
  go_wp2
  go_end0
  exact postF (f := .c) hL3 (by simp only [fieldW]) (by simp only [fieldOk]) (by omega) (k3.out.trans k4)
set_option maxHeartbeats 6400000 in
set_option maxRecDepth 100000 in
theorem rf_n (hE : EvR w x da dn dc na nn nc) (hN : EvN b da dn na nn) (h : LnT w b ws ok n) (hn : n ≤ 3145728) :
    Calls Tryz.prog 42 #[.pointer (some ⟨b, 0, none⟩), .int .u8 110, .agg (evC x da dn dc na nn nc)] w (PostF .n x b ws ok n w) := by
  have hlt := h.lt
  have hb1 := alloc_below w (.cells (evC x da dn dc na nn nc) 34)
  have hM := BlkAt.new w 34 (evC x da dn dc na nn nc)
  obtain ⟨w1, hw1⟩ : ∃ z, z = w.alloc (.cells (evC x da dn dc na nn nc) 34) := ⟨_, rfl⟩
  rw [← hw1] at hb1 hM
  obtain ⟨mb, hmb⟩ : ∃ z, z = w.heap.size := ⟨_, rfl⟩
  rw [← hmb] at hM
  have hmbb : mb ≠ b := by omega
  have hL1 := Lib.hid (h.below hb1)
  have kb := Lib.hid (Kp.ofBelow (b := b) hb1)
  have hE1 := Lib.hid (hE.below hb1)
  have hM1 := Lib.hid hM
  obtain ⟨⟨f1, f2, f3⟩, ⟨f4, f5, f6⟩, ⟨m1, m2, m3⟩, f8⟩ := hE.wf
  have hcC := Tryz.cfL x.conf.ep x.conf.rp
  have hcN := Tryz.cfL x.new.ep x.new.rp
  have hcV := Tryz.cfL x.vconf.ep x.vconf.rp
  have hpay := hE.pay
  have hstl := hE.st
  have hdl := Lib.hid hE.deps_len
  have hnl := Lib.hid hE.nlen
  have hdn := hE.dn
  have hnn := hE.nn
  replace hw1 := Lib.hid hw1
  replace hmb := Lib.hid hmb
  have hEw := Lib.hid hE
  clear hE h hM hb1
  have r1 := ev_new hM1.out
  have HC := Lib.hid (rconf_any x.new f2 hL1.out)
  have hcl := confR_len (c := x.new) f2
  go_enter Tryz.func42, Tryz.ntmps42
  go_wp2_with (first
    | (refine wpList_blk_box rfl (.tmp 2) rfl rfl mb hmb.out.symm ?_; rw [← hw1.out])
    | (refine wpList_load_mid rfl _ (.tmp 22) rfl mb 4 rfl [.int .u64 x.new.ep, .int .i64 x.new.rp] _ r1 Tryz.underlying25 rfl hcN ?_))
  refine HC.out.mono ?_
  rintro e w2 ⟨rfl, hL2, k2⟩
  have HS := Lib.hid (rsay_any (Lib.decDigits x.new.ep ++ 46 :: prR x.new.rp) (confW x.new) hL2 (by omega) (fun e => by
    rw [Bool.and_eq_true] at e
    exact ⟨by rw [prR_ok e.2]; rfl, confW_ne _⟩) (by omega))
  have k3 := Lib.hid (kb.out.trans k2)
  clear HC hL2 k2 r1
  go_wp2_with fail
  refine HS.out.mono ?_
  rintro e w3 ⟨rfl, hL3, k4⟩
  go_wp2
  go_end0
  exact postF (f := .n) hL3 (by simp only [fieldW]) (by simp only [fieldOk]) (by omega) (k3.out.trans k4)
set_option maxHeartbeats 6400000 in
set_option maxRecDepth 100000 in
theorem rf_s (hE : EvR w x da dn dc na nn nc) (hN : EvN b da dn na nn) (h : LnT w b ws ok n) (hn : n ≤ 3145728) :
    Calls Tryz.prog 42 #[.pointer (some ⟨b, 0, none⟩), .int .u8 115, .agg (evC x da dn dc na nn nc)] w (PostF .s x b ws ok n w) := by
  have hlt := h.lt
  have hb1 := alloc_below w (.cells (evC x da dn dc na nn nc) 34)
  have hM := BlkAt.new w 34 (evC x da dn dc na nn nc)
  obtain ⟨w1, hw1⟩ : ∃ z, z = w.alloc (.cells (evC x da dn dc na nn nc) 34) := ⟨_, rfl⟩
  rw [← hw1] at hb1 hM
  obtain ⟨mb, hmb⟩ : ∃ z, z = w.heap.size := ⟨_, rfl⟩
  rw [← hmb] at hM
  have hmbb : mb ≠ b := by omega
  have hL1 := Lib.hid (h.below hb1)
  have kb := Lib.hid (Kp.ofBelow (b := b) hb1)
  have hE1 := Lib.hid (hE.below hb1)
  have hM1 := Lib.hid hM
  obtain ⟨⟨f1, f2, f3⟩, ⟨f4, f5, f6⟩, ⟨m1, m2, m3⟩, f8⟩ := hE.wf
  have hcC := Tryz.cfL x.conf.ep x.conf.rp
  have hcN := Tryz.cfL x.new.ep x.new.rp
  have hcV := Tryz.cfL x.vconf.ep x.vconf.rp
  have hpay := hE.pay
  have hstl := hE.st
  have hdl := Lib.hid hE.deps_len
  have hnl := Lib.hid hE.nlen
  have hdn := hE.dn
  have hnn := hE.nn
  replace hw1 := Lib.hid hw1
  replace hmb := Lib.hid hmb
  have hEw := Lib.hid hE
  clear hE h hM hb1
  have c6 : w1.cell? ⟨mb, 6, none⟩ = some (.int .u64 x.mem) := BlkAt.cell hM1.out rfl
  have HC := Lib.hid (rdig_any x.mem f4 w1)
  have hcl := num_len f4
  go_enter Tryz.func42, Tryz.ntmps42
  go_wp2_with (first | (refine wpList_blk_box rfl (.tmp 2) rfl rfl mb hmb.out.symm ?_; rw [← hw1.out]))
  refine HC.out.mono ?_
  rintro e w2 ⟨rfl, hb2⟩
  have HS := Lib.hid (rsay_any (Lib.decDigits x.mem) (Lib.decDigits x.mem) (hL1.out.below hb2) (by omega) (fun e => ⟨rfl, num_ne _⟩) (by omega))
  have k3 := Lib.hid (kb.out.trans (Kp.ofBelow hb2))
  clear HC hb2
  go_wp2_with fail
  refine HS.out.mono ?_
  rintro e w3 ⟨rfl, hL3, k4⟩
  go_wp2
  go_end0
  exact postF (f := .s) hL3 (by simp only [fieldW]) (by rw [show fieldOk .s x = true from rfl, Bool.and_true]) (by omega) (k3.out.trans k4)
set_option maxHeartbeats 6400000 in
set_option maxRecDepth 100000 in
theorem rf_b (hE : EvR w x da dn dc na nn nc) (hN : EvN b da dn na nn) (h : LnT w b ws ok n) (hn : n ≤ 3145728) :
    Calls Tryz.prog 42 #[.pointer (some ⟨b, 0, none⟩), .int .u8 98, .agg (evC x da dn dc na nn nc)] w (PostF .b x b ws ok n w) := by
  have hlt := h.lt
  have hb1 := alloc_below w (.cells (evC x da dn dc na nn nc) 34)
  have hM := BlkAt.new w 34 (evC x da dn dc na nn nc)
  obtain ⟨w1, hw1⟩ : ∃ z, z = w.alloc (.cells (evC x da dn dc na nn nc) 34) := ⟨_, rfl⟩
  rw [← hw1] at hb1 hM
  obtain ⟨mb, hmb⟩ : ∃ z, z = w.heap.size := ⟨_, rfl⟩
  rw [← hmb] at hM
  have hmbb : mb ≠ b := by omega
  have hL1 := Lib.hid (h.below hb1)
  have kb := Lib.hid (Kp.ofBelow (b := b) hb1)
  have hE1 := Lib.hid (hE.below hb1)
  have hM1 := Lib.hid hM
  obtain ⟨⟨f1, f2, f3⟩, ⟨f4, f5, f6⟩, ⟨m1, m2, m3⟩, f8⟩ := hE.wf
  have hcC := Tryz.cfL x.conf.ep x.conf.rp
  have hcN := Tryz.cfL x.new.ep x.new.rp
  have hcV := Tryz.cfL x.vconf.ep x.vconf.rp
  have hpay := hE.pay
  have hstl := hE.st
  have hdl := Lib.hid hE.deps_len
  have hnl := Lib.hid hE.nlen
  have hdn := hE.dn
  have hnn := hE.nn
  replace hw1 := Lib.hid hw1
  replace hmb := Lib.hid hmb
  have hEw := Lib.hid hE
  clear hE h hM hb1
  have c18 : w1.cell? ⟨mb, 18, none⟩ = some (.string (mkB x.state)) := BlkAt.cell hM1.out rfl
  have HC := Lib.hid (rhex_any x.state hstl w1)
  have hcl := hex_len x.state
  go_enter Tryz.func42, Tryz.ntmps42
  go_wp2_with (first | (refine wpList_blk_box rfl (.tmp 2) rfl rfl mb hmb.out.symm ?_; rw [← hw1.out]))
  refine HC.out.mono ?_
  rintro e w2 ⟨rfl, hb2⟩
  have HS := Lib.hid (rsay_any (hexW x.state) (hexW x.state) (hL1.out.below hb2) (by omega) (fun e => ⟨rfl, hexW_ne _⟩) (by omega))
  have k3 := Lib.hid (kb.out.trans (Kp.ofBelow hb2))
  clear HC hb2
  go_wp2_with fail
  refine HS.out.mono ?_
  rintro e w3 ⟨rfl, hL3, k4⟩
  go_wp2
  go_end0
  exact postF (f := .b) hL3 (by simp only [fieldW]) (by rw [show fieldOk .b x = true from rfl, Bool.and_true]) (by omega) (k3.out.trans k4)
set_option maxHeartbeats 12800000 in
set_option maxRecDepth 100000 in
theorem rf_v (hE : EvR w x da dn dc na nn nc) (hN : EvN b da dn na nn) (h : LnT w b ws ok n) (hn : n ≤ 3145728) :
    Calls Tryz.prog 42 #[.pointer (some ⟨b, 0, none⟩), .int .u8 118, .agg (evC x da dn dc na nn nc)] w (PostF .v x b ws ok n w) := by
  have hlt := h.lt
  have hb1 := alloc_below w (.cells (evC x da dn dc na nn nc) 34)
  have hM := BlkAt.new w 34 (evC x da dn dc na nn nc)
  obtain ⟨w1, hw1⟩ : ∃ z, z = w.alloc (.cells (evC x da dn dc na nn nc) 34) := ⟨_, rfl⟩
  rw [← hw1] at hb1 hM
  obtain ⟨mb, hmb⟩ : ∃ z, z = w.heap.size := ⟨_, rfl⟩
  rw [← hmb] at hM
  have hmbb : mb ≠ b := by omega
  have hL1 := Lib.hid (h.below hb1)
  have kb := Lib.hid (Kp.ofBelow (b := b) hb1)
  have hE1 := Lib.hid (hE.below hb1)
  have hM1 := Lib.hid hM
  obtain ⟨⟨f1, f2, f3⟩, ⟨f4, f5, f6⟩, ⟨m1, m2, m3⟩, f8⟩ := hE.wf
  have hcC := Tryz.cfL x.conf.ep x.conf.rp
  have hcN := Tryz.cfL x.new.ep x.new.rp
  have hcV := Tryz.cfL x.vconf.ep x.vconf.rp
  have hpay := hE.pay
  have hstl := hE.st
  have hdl := Lib.hid hE.deps_len
  have hnl := Lib.hid hE.nlen
  have hdn := hE.dn
  have hnn := hE.nn
  replace hw1 := Lib.hid hw1
  replace hmb := Lib.hid hmb
  have hEw := Lib.hid hE
  clear hE h hM hb1
  have c13 : w1.cell? ⟨mb, 13, none⟩ = some (.int .u64 x.num) := BlkAt.cell hM1.out rfl
  have HC := Lib.hid (rdig_any x.num f5 w1)
  have hcl := num_len f5
  have hc2 := confR_len (c := x.vconf) f3
  have hc3 := num_len f6
  go_enter Tryz.func42, Tryz.ntmps42
  go_wp2_with (first | (refine wpList_blk_box rfl (.tmp 2) rfl rfl mb hmb.out.symm ?_; rw [← hw1.out]))
  refine HC.out.mono ?_
  rintro e w2 ⟨rfl, hb2⟩
  have HS := Lib.hid (rsay_any (Lib.decDigits x.num) (Lib.decDigits x.num) (hL1.out.below hb2) (by omega) (fun e => ⟨rfl, num_ne _⟩) (by omega))
  have k2 := Lib.hid (Kp.ofBelow (b := b) hb2)
  clear HC hb2 c13
  go_wp2_with fail
  refine HS.out.mono ?_
  rintro e w3 ⟨rfl, hL3, k3⟩
  have k3' := k2.out.trans k3
  have hM3 := Lib.hid (k3'.blk hM1.out hmbb)
  have r3 := ev_vconf hM3.out
  have HV := Lib.hid (rconf_any x.vconf f3 hL3)
  have kb3 := Lib.hid (kb.out.trans k3')
  clear HS k3 hL3 k3' k2
  go_wp2_with (first | (refine wpList_load_mid rfl _ (.tmp 104) rfl mb 14 rfl [.int .u64 x.vconf.ep, .int .i64 x.vconf.rp] _ r3 Tryz.underlying25 rfl hcV ?_))
  refine HV.out.mono ?_
  rintro e w4 ⟨rfl, hL4, k4⟩
  have hM4 := Lib.hid (k4.blk hM3.out hmbb)
  have kb4 := Lib.hid (kb3.out.trans k4)
  have HS4 := Lib.hid (rsay_any (Lib.decDigits x.vconf.ep ++ 46 :: prR x.vconf.rp) (confW x.vconf) hL4 (by omega) (fun e => by
    rw [Bool.and_eq_true] at e
    exact ⟨by rw [prR_ok e.2]; rfl, confW_ne _⟩) (by omega))
  clear HV hL4 k4 r3
  go_wp2_with fail
  refine HS4.out.mono ?_
  rintro e w5 ⟨rfl, hL5, k5⟩
  have hM5 := Lib.hid (k5.blk hM4.out hmbb)
  have kb5 := Lib.hid (kb4.out.trans k5)
  have c16 : w5.cell? ⟨mb, 16, none⟩ = some (.int .u64 x.vmem) := BlkAt.cell hM5.out rfl
  have HD := Lib.hid (rdig_any x.vmem f6 w5)
  clear HS4 k5
  go_wp2_with fail
  refine HD.out.mono ?_
  rintro e w6 ⟨rfl, hb6⟩
  have HS6 := Lib.hid (rsay_any (Lib.decDigits x.vmem) (Lib.decDigits x.vmem) (hL5.below hb6) (by omega) (fun e => ⟨rfl, num_ne _⟩) (by omega))
  have kb6 := Lib.hid (kb5.out.trans (Kp.ofBelow hb6))
  clear HD hb6 hL5
  go_wp2_with fail
  refine HS6.out.mono ?_
  rintro e w7 ⟨rfl, hL7, k7⟩
  go_wp2
  go_end0
  exact postF (f := .v) hL7 (by simp [fieldW]) (by simp only [fieldOk]) (by omega) (kb6.out.trans k7)
set_option maxHeartbeats 12800000 in
set_option maxRecDepth 100000 in
theorem rf_a (hE : EvR w x da dn dc na nn nc) (hN : EvN b da dn na nn) (h : LnT w b ws ok n) (hn : n ≤ 3145728) :
    Calls Tryz.prog 42 #[.pointer (some ⟨b, 0, none⟩), .int .u8 97, .agg (evC x da dn dc na nn nc)] w (PostF .a x b ws ok n w) := by
  have hlt := h.lt
  have hb1 := alloc_below w (.cells (evC x da dn dc na nn nc) 34)
  have hM := BlkAt.new w 34 (evC x da dn dc na nn nc)
  obtain ⟨w1, hw1⟩ : ∃ z, z = w.alloc (.cells (evC x da dn dc na nn nc) 34) := ⟨_, rfl⟩
  rw [← hw1] at hb1 hM
  obtain ⟨mb, hmb⟩ : ∃ z, z = w.heap.size := ⟨_, rfl⟩
  rw [← hmb] at hM
  have hmbb : mb ≠ b := by omega
  have hL1 := Lib.hid (h.below hb1)
  have kb := Lib.hid (Kp.ofBelow (b := b) hb1)
  have hE1 := Lib.hid (hE.below hb1)
  have hM1 := Lib.hid hM
  obtain ⟨⟨f1, f2, f3⟩, ⟨f4, f5, f6⟩, ⟨m1, m2, m3⟩, f8⟩ := hE.wf
  have hcC := Tryz.cfL x.conf.ep x.conf.rp
  have hcN := Tryz.cfL x.new.ep x.new.rp
  have hcV := Tryz.cfL x.vconf.ep x.vconf.rp
  have hpay := hE.pay
  have hstl := hE.st
  have hdl := Lib.hid hE.deps_len
  have hnl := Lib.hid hE.nlen
  have hdn := hE.dn
  have hnn := hE.nn
  replace hw1 := Lib.hid hw1
  replace hmb := Lib.hid hmb
  have hEw := Lib.hid hE
  clear hE h hM hb1
  go_enter Tryz.func42, Tryz.ntmps42
  go_upto_region 30 with (first | (refine wpList_blk_box rfl (.tmp 2) rfl rfl mb hmb.out.symm ?_; rw [← hw1.out]))
  obtain ⟨ok0, hok0⟩ : ∃ z, z = ok := ⟨_, rfl⟩
  have hfo : Hid ((ok && fieldOk .a x) = (ok0 && x.names.all (fun n => prOk n.proc))) := Lib.hid (by rw [hok0]; rfl)
  have hL2 := Lib.hid (show LnT w1 b ws ok0 n from by rw [hok0]; exact hL1.out)
  have kb2 := kb
  have hM2 := hM1
  have hE2 := hE1
  obtain ⟨w2, hw2⟩ : ∃ z, z = w1 := ⟨_, rfl⟩
  rw [← hw2] at hL2 kb2 hM2 hE2 ⊢
  clear hw2 hL1 kb hM1 hE1 hok0
  replace hN := Lib.hid hN
  go_wp2
  go_loopw [8] (fun iv wr => ∃ (i : Nat), i ≤ nn ∧ iv = .int .i64 i ∧ Hid (LnT wr b (ws ++ (x.names.take i).map nameW) (ok0 && (x.names.take i).all (fun n => prOk n.proc)) (n + i)) ∧ Hid (Kp b w2 wr)) (fun iv _ => nn - (RowKit.intOf iv).toNat)
  case atStart => exact ⟨0, Nat.zero_le _, rfl, Lib.hid (by rw [List.take_zero, List.map_nil, List.append_nil, List.all_nil, Bool.and_true]; exact hL2.out), Lib.hid (Kp.refl _ _)⟩
  case round =>
    clear hL2
    obtain ⟨i, hi, rfl, hL, hk⟩ := hrel
    obtain ⟨w3, rfl⟩ : ∃ z, z = wr := ⟨_, rfl⟩
    have hM3 := Lib.hid (hk.out.blk hM2.out hmbb)
    have c17 : w3.cell? ⟨mb, 17, none⟩ = some (.slice na nn nc) := BlkAt.cell hM3.out rfl
    by_cases hin : i < nn
    · have hiI : (i : Int) < nn := by omega
      have hil : i < x.names.length := by rw [hnl.out]; exact hin
      have hE3 := hE2.out.kp hN.out hk.out
      obtain ⟨g, off, rfl, hg⟩ := hE3.nr.addr (by omega)
      have hgb : g ≠ b := hN.out.n (by omega) g off rfl
      obtain ⟨c0, c1⟩ := own_nm hE3.nr i hil
      have hn8i := f8 _ (List.getElem_mem hil)
      have hts := Lib.hid (show (x.names.take (i + 1)).map nameW = (x.names.take i).map nameW ++ [nameW x.names[i]] from take_map_succ _ _ hil)
      have hta := Lib.hid (show (x.names.take (i + 1)).all (fun n => prOk n.proc) = ((x.names.take i).all (fun n => prOk n.proc) && prOk x.names[i].proc) from by rw [List.take_succ_eq_append_getElem hil, List.all_append]; simp)
      generalize x.names[i] = m at *
      have hS := Lib.hid (fun (W : World) (hb : ∀ q, q < w3.heap.size → q ≠ b → W.heap[q]? = w3.heap[q]?) => show BlkAt W mb 34 (evC x da dn dc (some ⟨g, off, none⟩) nn nc) ∧ W.cell? ⟨g, off + i * 2, none⟩ = some (.int .i64 m.proc) ∧ W.cell? ⟨g, off + i * 2 + 1, none⟩ = some (.int .u32 m.inc) from ⟨(hb mb hM3.out.lt hmbb).trans hM3.out, (World.cell?_of_block (w := w3) (hb g (by have := hk.out.size; omega) hgb)).trans c0, (World.cell?_of_block (w := w3) (hb g (by have := hk.out.size; omega) hgb)).trans c1⟩)
      have hkB : Hid (Kp b w3 w3.drew) := Lib.hid (Kp.refl b w3).drew
      have hst := hS.out w3.drew hkB.out.block
      have hL4 := Lib.hid (hL.out.below ((Below.refl w3.heap.size w3).drew))
      have HP := Lib.hid (rproc_any m.proc hL4.out)
      have hpl := prR_len m.proc
      have hdl2 := num_len (show m.inc < 18446744073709551616 by omega)
      have hs1 := mkB_size (prR m.proc)
      have hs2 := mkB_size (Lib.decDigits m.inc)
      have hz := Lib.hid (show mkB (prR m.proc) ++ (⟨#[46]⟩ : ByteArray) ++ mkB (Lib.decDigits m.inc) = mkB (prR m.proc ++ 46 :: Lib.decDigits m.inc) from by
        rw [show (⟨#[46]⟩ : ByteArray) = mkB [46] from rfl, mkB_append, mkB_append]; simp)
      have hpr := Lib.hid (show prR m.proc = if prOk m.proc = true then prW m.proc else [] from rfl)
      have HD := Lib.hid (fun W => rdig_any m.inc (by omega) W)
      obtain ⟨X, hX⟩ : ∃ z, z = mkB (prR m.proc) := ⟨_, rfl⟩
      obtain ⟨Y, hY⟩ : ∃ z, z = mkB (Lib.decDigits m.inc) := ⟨_, rfl⟩
      rw [← hpr.out, ← hX] at HP
      rw [← hX] at hs1 hz
      rw [← hY] at hs2 hz HD
      have ht1 : ¬ 9223372036854775807 < X.size + 1 := by omega
      have ht2 : ¬ 9223372036854775807 < X.size + 1 + Y.size := by omega
      have hwu : IntKind.u64.wrap (m.inc : Int) = m.inc := by rw [IntKind.wrap_u64]; omega
      have hnc := hE3.nr.le_cap
      replace hX := Lib.hid hX
      replace hY := Lib.hid hY
      replace hL := Lib.hid hL.out
      clear hE3 c0 c1 hL4 hs1 hs2
      go_upto_region 33 with (fail)
      refine wp_region_held_drew (S := fun W => BlkAt W mb 34 (evC x da dn dc (some ⟨g, off, none⟩) nn nc) ∧ W.cell? ⟨g, off + i * 2, none⟩ = some (.int .i64 m.proc) ∧ W.cell? ⟨g, off + i * 2 + 1, none⟩ = some (.int .u32 m.inc)) (by kernel_rfl) hst ?_
      intro hHeld
      clear hst
      (refine wpAnyH_take (i := 0) (v := ?_) rfl (by kernel_rfl) (by kernel_rfl) (by kernel_rfl) (fun _ _ _ h => h) (Or.inl ⟨by rfl, ?_⟩) (by assumption) ?_; rotate_left; (focus (intro w hSw; clear hSw; go_simp; (try with_reducible rfl))); (try simp only [Act.put, List.getElem_toArray, List.getElem_cons_zero, List.getElem_cons_succ, List.setIfInBounds_toArray, List.set_cons_zero, List.set_cons_succ]))
      (refine wpAnyH_take (i := 1) (v := ?_) rfl (by kernel_rfl) (by kernel_rfl) (by kernel_rfl) (fun _ _ _ h => h) (Or.inl ⟨by rfl, ?_⟩) (by assumption) ?_; rotate_left; (focus (intro w hSw; clear hSw; go_simp; (try with_reducible rfl))); (try simp only [Act.put, List.getElem_toArray, List.getElem_cons_zero, List.getElem_cons_succ, List.setIfInBounds_toArray, List.set_cons_zero, List.set_cons_succ]))
      (refine wpAnyH_take (i := 2) (v := ?_) rfl (by kernel_rfl) (by kernel_rfl) (by kernel_rfl) (fun _ _ _ h => h) (Or.inl ⟨by rfl, ?_⟩) (by assumption) ?_; rotate_left; (focus (intro w hSw; clear hSw; go_simp; (try with_reducible rfl))); (try simp only [Act.put, List.getElem_toArray, List.getElem_cons_zero, List.getElem_cons_succ, List.setIfInBounds_toArray, List.set_cons_zero, List.set_cons_succ]))
      (refine wpAnyH_take (i := 3) (v := ?_) rfl (by kernel_rfl) (by kernel_rfl) (by kernel_rfl) (fun _ _ _ h => h) (Or.inl ⟨by rfl, ?_⟩) (by assumption) ?_; rotate_left; (focus (intro w hSw; have hc := show w.cell? ⟨mb, 17, none⟩ = some (.slice (some ⟨g, off, none⟩) nn nc) from BlkAt.cell hSw.1 rfl; clear hSw; go_simp; (try with_reducible rfl))); (try simp only [Act.put, List.getElem_toArray, List.getElem_cons_zero, List.getElem_cons_succ, List.setIfInBounds_toArray, List.set_cons_zero, List.set_cons_succ]))
      (refine wpAnyH_take (i := 4) (v := ?_) rfl (by kernel_rfl) (by kernel_rfl) (by kernel_rfl) (fun _ _ _ h => h) (Or.inl ⟨by rfl, ?_⟩) (by assumption) ?_; rotate_left; (focus (intro w hSw; clear hSw; go_simp; (try with_reducible rfl))); (try simp only [Act.put, List.getElem_toArray, List.getElem_cons_zero, List.getElem_cons_succ, List.setIfInBounds_toArray, List.set_cons_zero, List.set_cons_succ]))
      (refine wpAnyH_take (i := 5) (v := ?_) rfl (by kernel_rfl) (by kernel_rfl) (by kernel_rfl) (fun _ _ _ h => h) (Or.inl ⟨by rfl, ?_⟩) (by assumption) ?_; rotate_left; (focus (intro w hSw; clear hSw; go_simp; (try with_reducible rfl))); (try simp only [Act.put, List.getElem_toArray, List.getElem_cons_zero, List.getElem_cons_succ, List.setIfInBounds_toArray, List.set_cons_zero, List.set_cons_succ]))
      (refine wpAnyH_take (i := 6) (v := ?_) rfl (by kernel_rfl) (by kernel_rfl) (by kernel_rfl) (fun _ _ _ h => h) (Or.inl ⟨by rfl, ?_⟩) (by assumption) ?_; rotate_left; (focus (intro w hSw; clear hSw; go_simp; (try with_reducible rfl))); (try simp only [Act.put, List.getElem_toArray, List.getElem_cons_zero, List.getElem_cons_succ, List.setIfInBounds_toArray, List.set_cons_zero, List.set_cons_succ]))
      (refine wpAnyH_take (i := 7) (v := ?_) rfl (by kernel_rfl) (by kernel_rfl) (by kernel_rfl) (fun _ _ _ h => h) (Or.inl ⟨by rfl, ?_⟩) (by assumption) ?_; rotate_left; (focus (intro w hSw; have hc := hSw.2.1; clear hSw; go_simp; (try with_reducible rfl))); (try simp only [Act.put, List.getElem_toArray, List.getElem_cons_zero, List.getElem_cons_succ, List.setIfInBounds_toArray, List.set_cons_zero, List.set_cons_succ]))
      (refine wpAnyH_take (i := 10) (v := ?_) rfl (by kernel_rfl) (by kernel_rfl) (by kernel_rfl) (fun _ _ _ h => h) (Or.inl ⟨by rfl, ?_⟩) (by assumption) ?_; rotate_left; (focus (intro w hSw; clear hSw; go_simp; (try with_reducible rfl))); (try simp only [Act.put, List.getElem_toArray, List.getElem_cons_zero, List.getElem_cons_succ, List.setIfInBounds_toArray, List.set_cons_zero, List.set_cons_succ]))
      (refine wpAnyH_take (i := 11) (v := ?_) rfl (by kernel_rfl) (by kernel_rfl) (by kernel_rfl) (fun _ _ _ h => h) (Or.inl ⟨by rfl, ?_⟩) (by assumption) ?_; rotate_left; (focus (intro w hSw; have hc := show w.cell? ⟨mb, 17, none⟩ = some (.slice (some ⟨g, off, none⟩) nn nc) from BlkAt.cell hSw.1 rfl; clear hSw; go_simp; (try with_reducible rfl))); (try simp only [Act.put, List.getElem_toArray, List.getElem_cons_zero, List.getElem_cons_succ, List.setIfInBounds_toArray, List.set_cons_zero, List.set_cons_succ]))
      (refine wpAnyH_take (i := 12) (v := ?_) rfl (by kernel_rfl) (by kernel_rfl) (by kernel_rfl) (fun _ _ _ h => h) (Or.inl ⟨by rfl, ?_⟩) (by assumption) ?_; rotate_left; (focus (intro w hSw; clear hSw; go_simp; (try with_reducible rfl))); (try simp only [Act.put, List.getElem_toArray, List.getElem_cons_zero, List.getElem_cons_succ, List.setIfInBounds_toArray, List.set_cons_zero, List.set_cons_succ]))
      (refine wpAnyH_take (i := 13) (v := ?_) rfl (by kernel_rfl) (by kernel_rfl) (by kernel_rfl) (fun _ _ _ h => h) (Or.inl ⟨by rfl, ?_⟩) (by assumption) ?_; rotate_left; (focus (intro w hSw; clear hSw; go_simp; (try with_reducible rfl))); (try simp only [Act.put, List.getElem_toArray, List.getElem_cons_zero, List.getElem_cons_succ, List.setIfInBounds_toArray, List.set_cons_zero, List.set_cons_succ]))
      (refine wpAnyH_take (i := 14) (v := ?_) rfl (by kernel_rfl) (by kernel_rfl) (by kernel_rfl) (fun _ _ _ h => h) (Or.inl ⟨by rfl, ?_⟩) (by assumption) ?_; rotate_left; (focus (intro w hSw; clear hSw; go_simp; (try with_reducible rfl))); (try simp only [Act.put, List.getElem_toArray, List.getElem_cons_zero, List.getElem_cons_succ, List.setIfInBounds_toArray, List.set_cons_zero, List.set_cons_succ]))
      (refine wpAnyH_take (i := 15) (v := ?_) rfl (by kernel_rfl) (by kernel_rfl) (by kernel_rfl) (fun _ _ _ h => h) (Or.inl ⟨by rfl, ?_⟩) (by assumption) ?_; rotate_left; (focus (intro w hSw; have hc := hSw.2.2; clear hSw; go_simp; (try with_reducible rfl))); (try simp only [Act.put, List.getElem_toArray, List.getElem_cons_zero, List.getElem_cons_succ, List.setIfInBounds_toArray, List.set_cons_zero, List.set_cons_succ]))
      (refine wpAnyH_take (i := 16) (v := ?_) rfl (by kernel_rfl) (by kernel_rfl) (by kernel_rfl) (fun _ _ _ h => h) (Or.inl ⟨by rfl, ?_⟩) (by assumption) ?_; rotate_left; (focus (intro w hSw; clear hSw; go_simp; (try with_reducible rfl))); (try simp only [Act.put, List.getElem_toArray, List.getElem_cons_zero, List.getElem_cons_succ, List.setIfInBounds_toArray, List.set_cons_zero, List.set_cons_succ]))
      (refine wpAnyH_ready (rs := [8]) (by kernel_rfl) (by simp) ?_; refine AllReadyH.cons rfl (fun K hK => ?_) AllReadyH.nil)
      go_simp
      refine HP.out.mono ?_
      rintro e w4 ⟨rfl, hL5, k5⟩
      replace hkB := Lib.hid (hkB.out.trans k5)
      refine hK.out _ _ (hS.out _ hkB.out.block) (fun hHeld => ?_)
      clear hK K k5 HP
      (refine wpAnyH_take (i := 9) (v := ?_) rfl (by kernel_rfl) (by kernel_rfl) (by kernel_rfl) (fun _ _ _ h => h) (Or.inl ⟨by rfl, ?_⟩) (by assumption) ?_; rotate_left; (focus (intro w hSw; clear hSw; go_simp; (try with_reducible rfl))); (try simp only [Act.put, List.getElem_toArray, List.getElem_cons_zero, List.getElem_cons_succ, List.setIfInBounds_toArray, List.set_cons_zero, List.set_cons_succ]))
      (refine wpAnyH_ready (rs := [17]) (by kernel_rfl) (by simp) ?_; refine AllReadyH.cons rfl (fun K hK => ?_) AllReadyH.nil)
      go_simp
      refine (HD.out _).mono ?_
      rintro e w5 ⟨rfl, hb5⟩
      replace hL5 := Lib.hid (hL5.below hb5)
      replace hkB := Lib.hid (hkB.out.trans (Kp.ofBelow hb5))
      refine hK.out _ _ (hS.out _ hkB.out.block) (fun hHeld => ?_)
      clear hK K hb5 HD
      (refine wpAnyH_take (i := 18) (v := .string (mkB (prR m.proc ++ 46 :: Lib.decDigits m.inc))) rfl (by kernel_rfl) (by kernel_rfl) (by kernel_rfl) (fun _ _ _ h => h) (Or.inl ⟨by rfl, ?_⟩) (by assumption) ?_; focus (intro w hSw; clear hSw; go_simp; exact hz.out); (try simp only [Act.put, List.getElem_toArray, List.getElem_cons_zero, List.getElem_cons_succ, List.setIfInBounds_toArray, List.set_cons_zero, List.set_cons_succ]))
      have HS := Lib.hid (rsay_any (prR m.proc ++ 46 :: Lib.decDigits m.inc) (nameW m) hL5.out (by rw [List.length_append, List.length_cons]; omega) (fun e => by
        rw [Bool.and_eq_true] at e
        exact ⟨by rw [prR_ok e.2]; rfl, nameW_ne _⟩) (by omega))
      (refine wpAnyH_ready (rs := [19]) (by kernel_rfl) (by simp) ?_; refine AllReadyH.cons rfl (fun K hK => ?_) AllReadyH.nil)
      go_simp
      refine HS.out.mono ?_
      rintro e w6 ⟨rfl, hL6, k6⟩
      replace hkB := Lib.hid (hkB.out.trans k6)
      refine hK.out _ _ (hS.out _ hkB.out.block) (fun hHeld => ?_)
      clear hK K
      refine wpAnyH_done (by kernel_rfl) ?_ _
      rw [List.append_assoc, ← hts.out, Bool.and_assoc, ← hta.out, Nat.add_assoc] at hL6
      have hk6 := Lib.hid (hk.out.trans hkB.out)
      replace hL6 := Lib.hid hL6
      clear hHeld hL5 HS hkB k6 hS
      go_wp2
      go_roundw
      case rel => exact ⟨i + 1, by omega, by go_num, hL6, hk6⟩
      case measure => simp [RowKit.intOf]; omega
    · have hiI : ¬ (i : Int) < nn := by omega
      obtain rfl : i = nn := by omega
      have ht : x.names.take i = x.names := List.take_of_length_le (by rw [hnl.out]; exact Nat.le_refl _)
      rw [ht, ← hfo.out] at hL
      go_wp2
      go_end0
      exact ⟨rfl, ⟨n + i, by omega, hL.out⟩, kb2.out.trans hk.out⟩
set_option maxHeartbeats 12800000 in
set_option maxRecDepth 100000 in
theorem rf_o (hE : EvR w x da dn dc na nn nc) (hN : EvN b da dn na nn) (h : LnT w b ws ok n) (hn : n ≤ 3145728) :
    Calls Tryz.prog 42 #[.pointer (some ⟨b, 0, none⟩), .int .u8 111, .agg (evC x da dn dc na nn nc)] w (PostF .o x b ws ok n w) := by
  have hlt := h.lt
  have hb1 := alloc_below w (.cells (evC x da dn dc na nn nc) 34)
  have hM := BlkAt.new w 34 (evC x da dn dc na nn nc)
  obtain ⟨w1, hw1⟩ : ∃ z, z = w.alloc (.cells (evC x da dn dc na nn nc) 34) := ⟨_, rfl⟩
  rw [← hw1] at hb1 hM
  obtain ⟨mb, hmb⟩ : ∃ z, z = w.heap.size := ⟨_, rfl⟩
  rw [← hmb] at hM
  have hmbb : mb ≠ b := by omega
  have hL1 := Lib.hid (h.below hb1)
  have kb := Lib.hid (Kp.ofBelow (b := b) hb1)
  have hE1 := Lib.hid (hE.below hb1)
  have hM1 := Lib.hid hM
  obtain ⟨⟨f1, f2, f3⟩, ⟨f4, f5, f6⟩, ⟨m1, m2, m3⟩, f8⟩ := hE.wf
  have hcC := Tryz.cfL x.conf.ep x.conf.rp
  have hcN := Tryz.cfL x.new.ep x.new.rp
  have hcV := Tryz.cfL x.vconf.ep x.vconf.rp
  have hpay := hE.pay
  have hstl := hE.st
  have hdl := Lib.hid hE.deps_len
  have hnl := Lib.hid hE.nlen
  have hdn := hE.dn
  have hnn := hE.nn
  replace hw1 := Lib.hid hw1
  replace hmb := Lib.hid hmb
  have hEw := Lib.hid hE
  clear hE h hM hb1
  go_enter Tryz.func42, Tryz.ntmps42
  have c17 : w1.cell? ⟨mb, 17, none⟩ = some (.slice na nn nc) := BlkAt.cell hM1.out rfl
  obtain ⟨cc1, cf1⟩ := hL1.out.cells
  go_upto_region 28 with (first | (refine wpList_blk_box rfl (.tmp 2) rfl rfl mb hmb.out.symm ?_; rw [← hw1.out]))
  go_cut [124] from 117 to 124 (fun t wx => t = .bool (decide (¬ nn = 1)) ∧ wx = w1)
  case first => as_aux_lemma =>
    by_cases h1 : nn = 1
    · have h1b : ((nn : Int) != 1) = false := by simp; omega
      have hz := Lib.hid (decide_eq_false (not_not_intro h1))
      clear h1
      go_wp2
      go_meet
      exact ⟨by rw [hz.out], rfl⟩
    · have h1b : ((nn : Int) != 1) = true := by simp; omega
      have hz := Lib.hid (decide_eq_true h1)
      clear h1
      go_wp2
      go_meet
      exact ⟨by rw [hz.out], rfl⟩
  case rest =>
  obtain ⟨hu, hwc⟩ := hcut
  rw [hu, hwc]
  clear hu hwc c17
  go_upto_if 124 with (fail)
  go_cut [] from 117 to 127 (fun wx => LnT wx b ws (ok && decide (nn = 1)) n ∧ Kp b w1 wx)
  case first => as_aux_lemma =>
    by_cases h1 : nn = 1
    · have hz := Lib.hid (decide_eq_true h1)
      rw [decide_eq_false (not_not_intro h1)]
      clear h1
      go_wp2
      go_meet
      exact ⟨by rw [hz.out, Bool.and_true]; exact hL1.out, Kp.refl _ _⟩
    · have hno := Lib.hid hL1.out.no
      have hz := Lib.hid (decide_eq_false h1)
      rw [decide_eq_true h1]
      clear h1
      go_wp2
      go_meet
      exact ⟨by rw [hz.out, Bool.and_false]; exact hno.out, (Kp.refl b w1).setCell ⟨b, 1, none⟩ rfl _⟩
  case rest => as_aux_lemma =>
    obtain ⟨hL2, hk2⟩ := hcut
    obtain ⟨w2, rfl⟩ : ∃ z, z = wc := ⟨_, rfl⟩
    obtain ⟨ok0, hok0⟩ : ∃ z, z = (ok && decide (nn = 1)) := ⟨_, rfl⟩
    rw [← hok0] at hL2
    have hfo : Hid ((ok && fieldOk .o x) = (ok0 && x.names.all (fun n => prOk n.proc))) := Lib.hid (by
      rw [hok0, show fieldOk .o x = (decide (x.names.length = 1) && x.names.all (fun n => prOk n.proc)) from rfl, hnl.out, Bool.and_assoc])
    have kb2 := Lib.hid (kb.out.trans hk2)
    have hM2 := Lib.hid (hk2.blk hM1.out hmbb)
    have hE2 := Lib.hid (hE1.out.kp hN hk2)
    replace hL2 := Lib.hid hL2
    clear hk2 hL1 kb hM1 hE1 hok0 cc1 cf1
    replace hN := Lib.hid hN
    go_wp2
    go_loopw [8] (fun iv wr => ∃ (i : Nat), i ≤ nn ∧ iv = .int .i64 i ∧ Hid (LnT wr b (ws ++ (x.names.take i).map nameW) (ok0 && (x.names.take i).all (fun n => prOk n.proc)) (n + i)) ∧ Hid (Kp b w2 wr)) (fun iv _ => nn - (RowKit.intOf iv).toNat)
    case atStart => exact ⟨0, Nat.zero_le _, rfl, Lib.hid (by rw [List.take_zero, List.map_nil, List.append_nil, List.all_nil, Bool.and_true]; exact hL2.out), Lib.hid (Kp.refl _ _)⟩
    case round =>
      clear hL2
      obtain ⟨i, hi, rfl, hL, hk⟩ := hrel
      obtain ⟨w3, rfl⟩ : ∃ z, z = wr := ⟨_, rfl⟩
      have hM3 := Lib.hid (hk.out.blk hM2.out hmbb)
      have c17 : w3.cell? ⟨mb, 17, none⟩ = some (.slice na nn nc) := BlkAt.cell hM3.out rfl
      by_cases hin : i < nn
      · have hiI : (i : Int) < nn := by omega
        have hil : i < x.names.length := by rw [hnl.out]; exact hin
        have hE3 := hE2.out.kp hN.out hk.out
        obtain ⟨g, off, rfl, hg⟩ := hE3.nr.addr (by omega)
        have hgb : g ≠ b := hN.out.n (by omega) g off rfl
        obtain ⟨c0, c1⟩ := own_nm hE3.nr i hil
        have hn8i := f8 _ (List.getElem_mem hil)
        have hts := Lib.hid (show (x.names.take (i + 1)).map nameW = (x.names.take i).map nameW ++ [nameW x.names[i]] from take_map_succ _ _ hil)
        have hta := Lib.hid (show (x.names.take (i + 1)).all (fun n => prOk n.proc) = ((x.names.take i).all (fun n => prOk n.proc) && prOk x.names[i].proc) from by rw [List.take_succ_eq_append_getElem hil, List.all_append]; simp)
        generalize x.names[i] = m at *
        have hS := Lib.hid (fun (W : World) (hb : ∀ q, q < w3.heap.size → q ≠ b → W.heap[q]? = w3.heap[q]?) => show BlkAt W mb 34 (evC x da dn dc (some ⟨g, off, none⟩) nn nc) ∧ W.cell? ⟨g, off + i * 2, none⟩ = some (.int .i64 m.proc) ∧ W.cell? ⟨g, off + i * 2 + 1, none⟩ = some (.int .u32 m.inc) from ⟨(hb mb hM3.out.lt hmbb).trans hM3.out, (World.cell?_of_block (w := w3) (hb g (by have := hk.out.size; omega) hgb)).trans c0, (World.cell?_of_block (w := w3) (hb g (by have := hk.out.size; omega) hgb)).trans c1⟩)
        have hkB : Hid (Kp b w3 w3.drew) := Lib.hid (Kp.refl b w3).drew
        have hst := hS.out w3.drew hkB.out.block
        have hL4 := Lib.hid (hL.out.below ((Below.refl w3.heap.size w3).drew))
        have HP := Lib.hid (rproc_any m.proc hL4.out)
        have hpl := prR_len m.proc
        have hdl2 := num_len (show m.inc < 18446744073709551616 by omega)
        have hs1 := mkB_size (prR m.proc)
        have hs2 := mkB_size (Lib.decDigits m.inc)
        have hz := Lib.hid (show mkB (prR m.proc) ++ (⟨#[46]⟩ : ByteArray) ++ mkB (Lib.decDigits m.inc) = mkB (prR m.proc ++ 46 :: Lib.decDigits m.inc) from by
          rw [show (⟨#[46]⟩ : ByteArray) = mkB [46] from rfl, mkB_append, mkB_append]; simp)
        have hpr := Lib.hid (show prR m.proc = if prOk m.proc = true then prW m.proc else [] from rfl)
        have HD := Lib.hid (fun W => rdig_any m.inc (by omega) W)
        obtain ⟨X, hX⟩ : ∃ z, z = mkB (prR m.proc) := ⟨_, rfl⟩
        obtain ⟨Y, hY⟩ : ∃ z, z = mkB (Lib.decDigits m.inc) := ⟨_, rfl⟩
        rw [← hpr.out, ← hX] at HP
        rw [← hX] at hs1 hz
        rw [← hY] at hs2 hz HD
        have ht1 : ¬ 9223372036854775807 < X.size + 1 := by omega
        have ht2 : ¬ 9223372036854775807 < X.size + 1 + Y.size := by omega
        have hwu : IntKind.u64.wrap (m.inc : Int) = m.inc := by rw [IntKind.wrap_u64]; omega
        have hnc := hE3.nr.le_cap
        replace hX := Lib.hid hX
        replace hY := Lib.hid hY
        replace hL := Lib.hid hL.out
        clear hE3 c0 c1 hL4 hs1 hs2
        go_upto_region 33 with (fail)
        refine wp_region_held_drew (S := fun W => BlkAt W mb 34 (evC x da dn dc (some ⟨g, off, none⟩) nn nc) ∧ W.cell? ⟨g, off + i * 2, none⟩ = some (.int .i64 m.proc) ∧ W.cell? ⟨g, off + i * 2 + 1, none⟩ = some (.int .u32 m.inc)) (by kernel_rfl) hst ?_
        intro hHeld
        clear hst
        (refine wpAnyH_take (i := 0) (v := ?_) rfl (by kernel_rfl) (by kernel_rfl) (by kernel_rfl) (fun _ _ _ h => h) (Or.inl ⟨by rfl, ?_⟩) (by assumption) ?_; rotate_left; (focus (intro w hSw; clear hSw; go_simp; (try with_reducible rfl))); (try simp only [Act.put, List.getElem_toArray, List.getElem_cons_zero, List.getElem_cons_succ, List.setIfInBounds_toArray, List.set_cons_zero, List.set_cons_succ]))
        (refine wpAnyH_take (i := 1) (v := ?_) rfl (by kernel_rfl) (by kernel_rfl) (by kernel_rfl) (fun _ _ _ h => h) (Or.inl ⟨by rfl, ?_⟩) (by assumption) ?_; rotate_left; (focus (intro w hSw; clear hSw; go_simp; (try with_reducible rfl))); (try simp only [Act.put, List.getElem_toArray, List.getElem_cons_zero, List.getElem_cons_succ, List.setIfInBounds_toArray, List.set_cons_zero, List.set_cons_succ]))
        (refine wpAnyH_take (i := 2) (v := ?_) rfl (by kernel_rfl) (by kernel_rfl) (by kernel_rfl) (fun _ _ _ h => h) (Or.inl ⟨by rfl, ?_⟩) (by assumption) ?_; rotate_left; (focus (intro w hSw; clear hSw; go_simp; (try with_reducible rfl))); (try simp only [Act.put, List.getElem_toArray, List.getElem_cons_zero, List.getElem_cons_succ, List.setIfInBounds_toArray, List.set_cons_zero, List.set_cons_succ]))
        (refine wpAnyH_take (i := 3) (v := ?_) rfl (by kernel_rfl) (by kernel_rfl) (by kernel_rfl) (fun _ _ _ h => h) (Or.inl ⟨by rfl, ?_⟩) (by assumption) ?_; rotate_left; (focus (intro w hSw; have hc := show w.cell? ⟨mb, 17, none⟩ = some (.slice (some ⟨g, off, none⟩) nn nc) from BlkAt.cell hSw.1 rfl; clear hSw; go_simp; (try with_reducible rfl))); (try simp only [Act.put, List.getElem_toArray, List.getElem_cons_zero, List.getElem_cons_succ, List.setIfInBounds_toArray, List.set_cons_zero, List.set_cons_succ]))
        (refine wpAnyH_take (i := 4) (v := ?_) rfl (by kernel_rfl) (by kernel_rfl) (by kernel_rfl) (fun _ _ _ h => h) (Or.inl ⟨by rfl, ?_⟩) (by assumption) ?_; rotate_left; (focus (intro w hSw; clear hSw; go_simp; (try with_reducible rfl))); (try simp only [Act.put, List.getElem_toArray, List.getElem_cons_zero, List.getElem_cons_succ, List.setIfInBounds_toArray, List.set_cons_zero, List.set_cons_succ]))
        (refine wpAnyH_take (i := 5) (v := ?_) rfl (by kernel_rfl) (by kernel_rfl) (by kernel_rfl) (fun _ _ _ h => h) (Or.inl ⟨by rfl, ?_⟩) (by assumption) ?_; rotate_left; (focus (intro w hSw; clear hSw; go_simp; (try with_reducible rfl))); (try simp only [Act.put, List.getElem_toArray, List.getElem_cons_zero, List.getElem_cons_succ, List.setIfInBounds_toArray, List.set_cons_zero, List.set_cons_succ]))
        (refine wpAnyH_take (i := 6) (v := ?_) rfl (by kernel_rfl) (by kernel_rfl) (by kernel_rfl) (fun _ _ _ h => h) (Or.inl ⟨by rfl, ?_⟩) (by assumption) ?_; rotate_left; (focus (intro w hSw; clear hSw; go_simp; (try with_reducible rfl))); (try simp only [Act.put, List.getElem_toArray, List.getElem_cons_zero, List.getElem_cons_succ, List.setIfInBounds_toArray, List.set_cons_zero, List.set_cons_succ]))
        (refine wpAnyH_take (i := 7) (v := ?_) rfl (by kernel_rfl) (by kernel_rfl) (by kernel_rfl) (fun _ _ _ h => h) (Or.inl ⟨by rfl, ?_⟩) (by assumption) ?_; rotate_left; (focus (intro w hSw; have hc := hSw.2.1; clear hSw; go_simp; (try with_reducible rfl))); (try simp only [Act.put, List.getElem_toArray, List.getElem_cons_zero, List.getElem_cons_succ, List.setIfInBounds_toArray, List.set_cons_zero, List.set_cons_succ]))
        (refine wpAnyH_take (i := 10) (v := ?_) rfl (by kernel_rfl) (by kernel_rfl) (by kernel_rfl) (fun _ _ _ h => h) (Or.inl ⟨by rfl, ?_⟩) (by assumption) ?_; rotate_left; (focus (intro w hSw; clear hSw; go_simp; (try with_reducible rfl))); (try simp only [Act.put, List.getElem_toArray, List.getElem_cons_zero, List.getElem_cons_succ, List.setIfInBounds_toArray, List.set_cons_zero, List.set_cons_succ]))
        (refine wpAnyH_take (i := 11) (v := ?_) rfl (by kernel_rfl) (by kernel_rfl) (by kernel_rfl) (fun _ _ _ h => h) (Or.inl ⟨by rfl, ?_⟩) (by assumption) ?_; rotate_left; (focus (intro w hSw; have hc := show w.cell? ⟨mb, 17, none⟩ = some (.slice (some ⟨g, off, none⟩) nn nc) from BlkAt.cell hSw.1 rfl; clear hSw; go_simp; (try with_reducible rfl))); (try simp only [Act.put, List.getElem_toArray, List.getElem_cons_zero, List.getElem_cons_succ, List.setIfInBounds_toArray, List.set_cons_zero, List.set_cons_succ]))
        (refine wpAnyH_take (i := 12) (v := ?_) rfl (by kernel_rfl) (by kernel_rfl) (by kernel_rfl) (fun _ _ _ h => h) (Or.inl ⟨by rfl, ?_⟩) (by assumption) ?_; rotate_left; (focus (intro w hSw; clear hSw; go_simp; (try with_reducible rfl))); (try simp only [Act.put, List.getElem_toArray, List.getElem_cons_zero, List.getElem_cons_succ, List.setIfInBounds_toArray, List.set_cons_zero, List.set_cons_succ]))
        (refine wpAnyH_take (i := 13) (v := ?_) rfl (by kernel_rfl) (by kernel_rfl) (by kernel_rfl) (fun _ _ _ h => h) (Or.inl ⟨by rfl, ?_⟩) (by assumption) ?_; rotate_left; (focus (intro w hSw; clear hSw; go_simp; (try with_reducible rfl))); (try simp only [Act.put, List.getElem_toArray, List.getElem_cons_zero, List.getElem_cons_succ, List.setIfInBounds_toArray, List.set_cons_zero, List.set_cons_succ]))
        (refine wpAnyH_take (i := 14) (v := ?_) rfl (by kernel_rfl) (by kernel_rfl) (by kernel_rfl) (fun _ _ _ h => h) (Or.inl ⟨by rfl, ?_⟩) (by assumption) ?_; rotate_left; (focus (intro w hSw; clear hSw; go_simp; (try with_reducible rfl))); (try simp only [Act.put, List.getElem_toArray, List.getElem_cons_zero, List.getElem_cons_succ, List.setIfInBounds_toArray, List.set_cons_zero, List.set_cons_succ]))
        (refine wpAnyH_take (i := 15) (v := ?_) rfl (by kernel_rfl) (by kernel_rfl) (by kernel_rfl) (fun _ _ _ h => h) (Or.inl ⟨by rfl, ?_⟩) (by assumption) ?_; rotate_left; (focus (intro w hSw; have hc := hSw.2.2; clear hSw; go_simp; (try with_reducible rfl))); (try simp only [Act.put, List.getElem_toArray, List.getElem_cons_zero, List.getElem_cons_succ, List.setIfInBounds_toArray, List.set_cons_zero, List.set_cons_succ]))
        (refine wpAnyH_take (i := 16) (v := ?_) rfl (by kernel_rfl) (by kernel_rfl) (by kernel_rfl) (fun _ _ _ h => h) (Or.inl ⟨by rfl, ?_⟩) (by assumption) ?_; rotate_left; (focus (intro w hSw; clear hSw; go_simp; (try with_reducible rfl))); (try simp only [Act.put, List.getElem_toArray, List.getElem_cons_zero, List.getElem_cons_succ, List.setIfInBounds_toArray, List.set_cons_zero, List.set_cons_succ]))
        (refine wpAnyH_ready (rs := [8]) (by kernel_rfl) (by simp) ?_; refine AllReadyH.cons rfl (fun K hK => ?_) AllReadyH.nil)
        go_simp
        refine HP.out.mono ?_
        rintro e w4 ⟨rfl, hL5, k5⟩
        replace hkB := Lib.hid (hkB.out.trans k5)
        refine hK.out _ _ (hS.out _ hkB.out.block) (fun hHeld => ?_)
        clear hK K k5 HP
        (refine wpAnyH_take (i := 9) (v := ?_) rfl (by kernel_rfl) (by kernel_rfl) (by kernel_rfl) (fun _ _ _ h => h) (Or.inl ⟨by rfl, ?_⟩) (by assumption) ?_; rotate_left; (focus (intro w hSw; clear hSw; go_simp; (try with_reducible rfl))); (try simp only [Act.put, List.getElem_toArray, List.getElem_cons_zero, List.getElem_cons_succ, List.setIfInBounds_toArray, List.set_cons_zero, List.set_cons_succ]))
        (refine wpAnyH_ready (rs := [17]) (by kernel_rfl) (by simp) ?_; refine AllReadyH.cons rfl (fun K hK => ?_) AllReadyH.nil)
        go_simp
        refine (HD.out _).mono ?_
        rintro e w5 ⟨rfl, hb5⟩
        replace hL5 := Lib.hid (hL5.below hb5)
        replace hkB := Lib.hid (hkB.out.trans (Kp.ofBelow hb5))
        refine hK.out _ _ (hS.out _ hkB.out.block) (fun hHeld => ?_)
        clear hK K hb5 HD
        (refine wpAnyH_take (i := 18) (v := .string (mkB (prR m.proc ++ 46 :: Lib.decDigits m.inc))) rfl (by kernel_rfl) (by kernel_rfl) (by kernel_rfl) (fun _ _ _ h => h) (Or.inl ⟨by rfl, ?_⟩) (by assumption) ?_; focus (intro w hSw; clear hSw; go_simp; exact hz.out); (try simp only [Act.put, List.getElem_toArray, List.getElem_cons_zero, List.getElem_cons_succ, List.setIfInBounds_toArray, List.set_cons_zero, List.set_cons_succ]))
        have HS := Lib.hid (rsay_any (prR m.proc ++ 46 :: Lib.decDigits m.inc) (nameW m) hL5.out (by rw [List.length_append, List.length_cons]; omega) (fun e => by
          rw [Bool.and_eq_true] at e
          exact ⟨by rw [prR_ok e.2]; rfl, nameW_ne _⟩) (by omega))
        (refine wpAnyH_ready (rs := [19]) (by kernel_rfl) (by simp) ?_; refine AllReadyH.cons rfl (fun K hK => ?_) AllReadyH.nil)
        go_simp
        refine HS.out.mono ?_
        rintro e w6 ⟨rfl, hL6, k6⟩
        replace hkB := Lib.hid (hkB.out.trans k6)
        refine hK.out _ _ (hS.out _ hkB.out.block) (fun hHeld => ?_)
        clear hK K
        refine wpAnyH_done (by kernel_rfl) ?_ _
        rw [List.append_assoc, ← hts.out, Bool.and_assoc, ← hta.out, Nat.add_assoc] at hL6
        have hk6 := Lib.hid (hk.out.trans hkB.out)
        replace hL6 := Lib.hid hL6
        clear hHeld hL5 HS hkB k6 hS
        go_wp2
        go_roundw
        case rel => exact ⟨i + 1, by omega, by go_num, hL6, hk6⟩
        case measure => simp [RowKit.intOf]; omega
      · have hiI : ¬ (i : Int) < nn := by omega
        obtain rfl : i = nn := by omega
        have ht : x.names.take i = x.names := List.take_of_length_le (by rw [hnl.out]; exact Nat.le_refl _)
        rw [ht, ← hfo.out] at hL
        go_wp2
        go_end0
        exact ⟨rfl, ⟨n + i, by omega, hL.out⟩, kb2.out.trans hk.out⟩
theorem rproc_R (p : Int) (h : LnT w b ws ok n) :
    Calls Tryz.prog 41 #[.pointer (some ⟨b, 0, none⟩), .int .i64 p] w fun e w' => e = .returned (.string (mkB (prR p))) ∧ LnT w' b ws (ok && prOk p) n ∧ Kp b w w' := by
  have := rproc_any p h
  unfold prR
  exact this
theorem join_snocC (ws : List W8) (u : W8) (h : ws ≠ []) : Lib.join (ws ++ [u]) [44] = Lib.join ws [44] ++ 44 :: u := by
  induction ws with
  | nil => exact absurd rfl h
  | cons v ws ih =>
    cases ws with
    | nil => rw [List.singleton_append, join_cons2 _ _ (by simp), Lib.join_one, Lib.join_one]; simp
    | cons v2 ws =>
      rw [List.cons_append, join_cons2 _ _ (by simp), ih (by simp), join_cons2 v _ (by simp)]
      simp
theorem depsW_snoc (l : List Nat) (d : Nat) (h : l ≠ []) : depsW (l ++ [d]) = depsW l ++ 44 :: Lib.decDigits d := by
  unfold depsW
  rw [List.map_append, List.map_cons, List.map_nil, join_snocC _ _ (by simpa using h)]
  rfl
theorem depsW_one (d : Nat) : depsW [d] = depsW [] ++ Lib.decDigits d := by
  unfold depsW
  rw [List.map_cons, List.map_nil, Lib.join_one]
  rfl
theorem depsW_le (l : List Nat) (h : ∀ d ∈ l, d < 4294967296) : (depsW l).length ≤ 1 + 21 * l.length := by
  have := join_le (k := 20) 44 (l.map Lib.decDigits) (fun w hw => by
    obtain ⟨d, hd, rfl⟩ := List.mem_map.1 hw
    exact num_len (by have := h d hd; omega))
  rw [List.length_map] at this
  unfold depsW
  rw [List.length_cons]
  omega
set_option maxHeartbeats 12800000 in
set_option maxRecDepth 100000 in
theorem rf_m (hE : EvR w x da dn dc na nn nc) (hN : EvN b da dn na nn) (h : LnT w b ws ok n) (hn : n ≤ 3145728) :
    Calls Tryz.prog 42 #[.pointer (some ⟨b, 0, none⟩), .int .u8 109, .agg (evC x da dn dc na nn nc)] w (PostF .m x b ws ok n w) := by
  have hlt := h.lt
  have hb1 := alloc_below w (.cells (evC x da dn dc na nn nc) 34)
  have hM := BlkAt.new w 34 (evC x da dn dc na nn nc)
  obtain ⟨w1, hw1⟩ : ∃ z, z = w.alloc (.cells (evC x da dn dc na nn nc) 34) := ⟨_, rfl⟩
  rw [← hw1] at hb1 hM
  obtain ⟨mb, hmb⟩ : ∃ z, z = w.heap.size := ⟨_, rfl⟩
  rw [← hmb] at hM
  have hmbb : mb ≠ b := by omega
  have hL1 := Lib.hid (h.below hb1)
  have kb := Lib.hid (Kp.ofBelow (b := b) hb1)
  have hE1 := Lib.hid (hE.below hb1)
  have hM1 := Lib.hid hM
  obtain ⟨⟨f1, f2, f3⟩, ⟨f4, f5, f6⟩, ⟨m1, m2, m3⟩, f8⟩ := hE.wf
  have hcC := Tryz.cfL x.conf.ep x.conf.rp
  have hcN := Tryz.cfL x.new.ep x.new.rp
  have hcV := Tryz.cfL x.vconf.ep x.vconf.rp
  have hpay := hE.pay
  have hstl := hE.st
  have hdl := Lib.hid hE.deps_len
  have hnl := Lib.hid hE.nlen
  have hdn := hE.dn
  have hnn := hE.nn
  replace hw1 := Lib.hid hw1
  replace hmb := Lib.hid hmb
  have hEw := Lib.hid hE
  clear hE h hM hb1
  obtain ⟨w2, hw2⟩ : ∃ z, z = w1 := ⟨_, rfl⟩
  have hL2 : LnT w2 b ws ok n := by rw [hw2]; exact hL1.out
  have hM2 : Hid (BlkAt w2 mb 34 (evC x da dn dc na nn nc)) := by rw [hw2]; exact hM1
  have kb2 : Hid (Kp b w w2) := by rw [hw2]; exact kb
  have hE2 : Hid (EvR w2 x da dn dc na nn nc) := by rw [hw2]; exact hE1
  rw [← hw2] at hw1
  clear hw2 hL1 hM1 kb hE1
  have hpl1 := prR_len x.m.frm
  have hpl2 := prR_len x.m.svc
  have hnl1 := num_len (show x.m.seq < 18446744073709551616 by omega)
  have hnl2 := num_len m2
  have hwu : IntKind.u64.wrap (x.m.seq : Int) = x.m.seq := by rw [IntKind.wrap_u64]; omega
  have e7 : w2.cell? ⟨mb, 7, none⟩ = some (.int .i64 x.m.frm) := BlkAt.cell hM2.out rfl
  go_enter Tryz.func42, Tryz.ntmps42
  go_upto_region 9 with (first | (refine wpList_blk_box rfl (.tmp 2) rfl rfl mb hmb.out.symm ?_; rw [← hw1.out]))
  have HP2 := Lib.hid (rproc_R x.m.frm hL2)
  go_wp2_with fail
  refine HP2.out.mono ?_
  rintro e w3 ⟨rfl, hL3, k3⟩
  have hM3 := Lib.hid (k3.blk hM2.out hmbb)
  have kb3 := Lib.hid (kb2.out.trans k3)
  clear HP2 k3 hL2
  have HS1 := Lib.hid (rsay_any (prR x.m.frm) (prW x.m.frm) hL3 (by omega) (fun e => by rw [Bool.and_eq_true] at e; exact ⟨prR_ok e.2, prW_ne _⟩) (by omega))
  go_wp2_with fail
  refine HS1.out.mono ?_
  rintro e w4 ⟨rfl, hL4, k4⟩
  have hM4 := Lib.hid (k4.blk hM3.out hmbb)
  have kb4 := Lib.hid (kb3.out.trans k4)
  clear HS1 k4 hL3
  have e8 : w4.cell? ⟨mb, 8, none⟩ = some (.int .u32 x.m.seq) := BlkAt.cell hM4.out rfl
  have HD4 := Lib.hid (rdig_any x.m.seq (by omega) w4)
  go_wp2_with fail
  refine HD4.out.mono ?_
  rintro e w5 ⟨rfl, hb5⟩
  have hM5 := Lib.hid (hM4.out.below hb5 hM4.out.lt)
  have kb5 := Lib.hid (kb4.out.trans (Kp.ofBelow hb5))
  have hL5 := hL4.below hb5
  clear HD4 hb5 hL4
  have HS2 := Lib.hid (rsay_any (Lib.decDigits x.m.seq) (Lib.decDigits x.m.seq) hL5 (by omega) (fun _ => ⟨rfl, num_ne _⟩) (by omega))
  go_wp2_with fail
  refine HS2.out.mono ?_
  rintro e w6 ⟨rfl, hL6, k6⟩
  have hM6 := Lib.hid (k6.blk hM5.out hmbb)
  have kb6 := Lib.hid (kb5.out.trans k6)
  clear HS2 k6 hL5
  have e9 : w6.cell? ⟨mb, 9, none⟩ = some (.int .u64 x.m.stamp) := BlkAt.cell hM6.out rfl
  have HD6 := Lib.hid (rdig_any x.m.stamp m2 w6)
  go_wp2_with fail
  refine HD6.out.mono ?_
  rintro e w7 ⟨rfl, hb7⟩
  have hM7 := Lib.hid (hM6.out.below hb7 hM6.out.lt)
  have kb7 := Lib.hid (kb6.out.trans (Kp.ofBelow hb7))
  have hL7 := hL6.below hb7
  clear HD6 hb7 hL6
  have HS3 := Lib.hid (rsay_any (Lib.decDigits x.m.stamp) (Lib.decDigits x.m.stamp) hL7 (by omega) (fun _ => ⟨rfl, num_ne _⟩) (by omega))
  go_wp2_with fail
  refine HS3.out.mono ?_
  rintro e w8 ⟨rfl, hL8, k8⟩
  have hM8 := Lib.hid (k8.blk hM7.out hmbb)
  have kb8 := Lib.hid (kb7.out.trans k8)
  clear HS3 k8 hL7
  have e10 : w8.cell? ⟨mb, 10, none⟩ = some (.int .i64 x.m.svc) := BlkAt.cell hM8.out rfl
  have HP8 := Lib.hid (rproc_R x.m.svc hL8)
  go_wp2_with fail
  refine HP8.out.mono ?_
  rintro e w9 ⟨rfl, hL9, k9⟩
  have hM9 := Lib.hid (k9.blk hM8.out hmbb)
  have kb9 := Lib.hid (kb8.out.trans k9)
  clear HP8 k9 hL8
  have HS4 := Lib.hid (rsay_any (prR x.m.svc) (prW x.m.svc) hL9 (by omega) (fun e => by rw [Bool.and_eq_true] at e; exact ⟨prR_ok e.2, prW_ne _⟩) (by omega))
  go_wp2_with fail
  refine HS4.out.mono ?_
  rintro e w10 ⟨rfl, hL10, k10⟩
  have hM10 := Lib.hid (k10.blk hM9.out hmbb)
  have kb10 := Lib.hid (kb9.out.trans k10)
  clear HS4 k10 hL9
  have hr := Lib.hid (hEw.out.kp hN kb10.out).dr
  replace hL10 := Lib.hid hL10
  replace hN := Lib.hid hN
  clear hEw
  go_wp2
  go_loopw [6, 7] (fun tv iv wr => ∃ (i : Nat) (T : ByteArray), i ≤ dn ∧ iv = .int .i64 i ∧ tv = .string T ∧ Hid (T = mkB (depsW (x.m.deps.take i))) ∧ T.size ≤ 1 + 21 * i ∧ Hid (Below w10.heap.size w10 wr)) (fun _ iv _ => dn - (RowKit.intOf iv).toNat)
  case atStart => exact ⟨0, _, Nat.zero_le _, rfl, rfl, Lib.hid rfl, Nat.le_refl 1, Lib.hid (Below.refl _ _)⟩
  case round =>
    obtain ⟨i, T, hi, rfl, rfl, hT, hTs, hb⟩ := hrel
    obtain ⟨w11, rfl⟩ : ∃ z, z = wr := ⟨_, rfl⟩
    have hM11 := Lib.hid (hM10.out.below hb.out hM10.out.lt)
    have e11 : w11.cell? ⟨mb, 11, none⟩ = some (.slice da dn dc) := BlkAt.cell hM11.out rfl
    by_cases hin : i < dn
    · have hiI : (i : Int) < dn := by omega
      have hil : i < x.m.deps.length := by rw [hdl.out]; exact hin
      obtain ⟨g, off, rfl, _⟩ := hr.out.addr (by omega)
      have c1 : w11.cell? ⟨g, off + i, none⟩ = some (.int .u32 x.m.deps[i]) := (hr.out.below hb.out (Nat.le_refl _)).at (by rw [List.getElem?_map, List.getElem?_eq_getElem hil]; rfl)
      have hd := m3 _ (List.getElem_mem hil)
      have htk := Lib.hid (show x.m.deps.take (i + 1) = x.m.deps.take i ++ [x.m.deps[i]] from List.take_succ_eq_append_getElem hil)
      have hwd : IntKind.u64.wrap (x.m.deps[i] : Int) = x.m.deps[i] := by rw [IntKind.wrap_u64]; omega
      generalize x.m.deps[i] = d at *
      have hdl2 := num_len (show d < 18446744073709551616 by omega)
      have hs2 := mkB_size (Lib.decDigits d)
      have HD := Lib.hid (rdig_any d (by omega) w11)
      obtain ⟨Y, hY⟩ : ∃ z, z = mkB (Lib.decDigits d) := ⟨_, rfl⟩
      rw [← hY] at hs2 HD
      replace hY := Lib.hid hY
      by_cases hi0 : i = 0
      · have hi0I : ¬ (0 : Int) < i := by omega
        have hz := Lib.hid (show T ++ Y = mkB (depsW (x.m.deps.take (i + 1))) from by rw [hT.out, hY.out, htk.out, show x.m.deps.take i = [] from by rw [hi0, List.take_zero], List.nil_append, depsW_one, mkB_append])
        have ht : ¬ 9223372036854775807 < T.size + Y.size := by omega
        have hsz : (T ++ Y).size ≤ 1 + 21 * (i + 1) := by rw [ByteArray.size_append]; omega
        clear hi0
        go_wp2_with fail
        refine HD.out.mono ?_
        rintro e w12 ⟨rfl, hb12⟩
        have hb13 := Lib.hid (hb.out.trans (hb12.mono hb.out.size))
        go_wp2
        go_roundw
        case rel => exact ⟨i + 1, T ++ Y, by omega, by go_num, rfl, hz, hsz, hb13⟩
        case measure => simp [RowKit.intOf]; omega
      · have hi0I : (0 : Int) < i := by omega
        have hz := Lib.hid (show T ++ (⟨#[44]⟩ : ByteArray) ++ Y = mkB (depsW (x.m.deps.take (i + 1))) from by
          rw [hT.out, hY.out, htk.out, depsW_snoc _ _ (fun e => (List.take_eq_nil_iff.1 e).elim hi0 (fun h => by rw [h] at hil; exact Nat.not_lt_zero _ hil)), show (⟨#[44]⟩ : ByteArray) = mkB [44] from rfl, mkB_append, mkB_append]
          simp)
        have h1 : (⟨#[44]⟩ : ByteArray).size = 1 := rfl
        have ht : ¬ 9223372036854775807 < T.size + 1 := by omega
        have ht2 : ¬ 9223372036854775807 < T.size + 1 + Y.size := by omega
        have hsz : (T ++ (⟨#[44]⟩ : ByteArray) ++ Y).size ≤ 1 + 21 * (i + 1) := by rw [ByteArray.size_append, ByteArray.size_append]; omega
        clear hi0
        go_wp2_with fail
        refine HD.out.mono ?_
        rintro e w12 ⟨rfl, hb12⟩
        have hb13 := Lib.hid (hb.out.trans (hb12.mono hb.out.size))
        go_wp2
        go_roundw
        case rel => exact ⟨i + 1, T ++ (⟨#[44]⟩ : ByteArray) ++ Y, by omega, by go_num, rfl, hz, hsz, hb13⟩
        case measure => simp [RowKit.intOf]; omega
    · have hiI : ¬ (i : Int) < dn := by omega
      obtain rfl : i = dn := by omega
      have hz := Lib.hid (show T = mkB (depsW x.m.deps) from by rw [hT.out, List.take_of_length_le (by rw [hdl.out]; exact Nat.le_refl _)])
      have hdw := depsW_le x.m.deps m3
      rw [hdl.out] at hdw
      have hL11 := hL10.out.below hb.out
      have kb11 := Lib.hid (kb10.out.trans (Kp.ofBelow hb.out))
      have HS5 := Lib.hid (rsay_any (depsW x.m.deps) (depsW x.m.deps) hL11 (by omega) (fun _ => ⟨rfl, depsW_ne _⟩) (by omega))
      rw [← hz.out] at HS5
      go_wp2_with fail
      refine HS5.out.mono ?_
      rintro e w12 ⟨rfl, hL12, k12⟩
      have hM12 := Lib.hid (k12.blk hM11.out hmbb)
      have kb12 := Lib.hid (kb11.out.trans k12)
      clear HS5 k12 hL11
      have e12 : w12.cell? ⟨mb, 12, none⟩ = some (.string (mkB x.m.pay)) := BlkAt.cell hM12.out rfl
      have HX := Lib.hid (rhex_any x.m.pay hpay w12)
      have hxl := hex_len x.m.pay
      go_wp2_with fail
      refine HX.out.mono ?_
      rintro e w13 ⟨rfl, hb13⟩
      have hM13 := Lib.hid (hM12.out.below hb13 hM12.out.lt)
      have kb13 := Lib.hid (kb12.out.trans (Kp.ofBelow hb13))
      have hL13 := hL12.below hb13
      clear HX hb13 hL12
      have HS6 := Lib.hid (rsay_any (hexW x.m.pay) (hexW x.m.pay) hL13 (by omega) (fun _ => ⟨rfl, hexW_ne _⟩) (by omega))
      go_wp2_with fail
      refine HS6.out.mono ?_
      rintro e w14 ⟨rfl, hL14, k14⟩
      have hM14 := Lib.hid (k14.blk hM13.out hmbb)
      have kb14 := Lib.hid (kb13.out.trans k14)
      clear HS6 k14 hL13

      go_wp2
      go_end0
      exact postF (f := .m) hL14 (by simp [fieldW, msgW]) (by simp only [fieldOk, Bool.and_assoc]) (by omega) kb14.out
end
end Go.Proofs.YtpkknhhohbobaaaGreatDoor
