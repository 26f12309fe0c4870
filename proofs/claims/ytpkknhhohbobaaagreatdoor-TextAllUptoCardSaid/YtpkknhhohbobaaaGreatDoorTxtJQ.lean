/- text: caught, try, Print -/
import Derived.Test.YtpkknhhohbobaaaGreatDoorTxtIQ
import Derived.Defers
import Derived.Recover
namespace Go.Proofs.YtpkknhhohbobaaaGreatDoor
set_option linter.unusedSimpArgs false
set_option linter.unusedVariables false
open Go.RowKit Go.Sort
theorem ta_err (e : Int) (w : World) : (Instr.typeAssert (.iface 35 (.int .i64 e)) 20 35 true).run Tryz.prog w = .ok (.tuple #[.int .i64 e, .bool true]) w := by kernel_rfl
set_option maxHeartbeats 1000000 in
theorem caught_err (p : Nat) (y : Value) (e : Int) (older : List PanicEntry) (w : World) (hc : w.cell? ⟨p, 0, none⟩ = some y) (hf : w.frozen? ⟨p, 0, none⟩ = false) :
    CallsD Tryz.prog 31 #[.pointer (some ⟨p, 0, none⟩)] (.panicking ({ v := .iface 35 (.int .i64 e), recovered := false } :: older)) w fun x u' w' =>
      x = .returned (.tuple #[]) ∧ u' = .panicking ({ v := .iface 35 (.int .i64 e), recovered := true } :: older) ∧ w' = w.setCell ⟨p, 0, none⟩ (.int .i64 e) := by
  have hta := ta_err e
  refine callsD_of_wpS Tryz.func31 rfl fun c₀ cs hu => ?_
  apply wpS_seq
  apply wpS_region
  simp [wpOpsS, go_sem, recoverD, hu, Tryz.ntmps31, Exit.thenS, Array.replicate, List.replicate]
  refine wpS_of_wp ?_
  go_wp2
  cases c₀
  simp_all [bodyPostS, results, Tryz.results31]
set_option maxHeartbeats 1000000 in
theorem caught_idle (p : Nat) (w : World) :
    CallsD Tryz.prog 31 #[.pointer (some ⟨p, 0, none⟩)] .returning w fun x u' w' => x = .returned (.tuple #[]) ∧ u' = .returning ∧ w' = w := by
  refine callsD_of_wpS Tryz.func31 rfl fun c₀ cs hu => ?_
  apply wpS_seq
  apply wpS_region
  simp [wpOpsS, go_sem, recoverD, hu, Tryz.ntmps31, Exit.thenS, Array.replicate, List.replicate]
  refine wpS_of_wp ?_
  go_wp2
  cases c₀
  simp_all [bodyPostS, results, Tryz.results31]
section
variable {B b : Nat} {w w' : World} {ws : List W8} {x : TEv} {da na : Option Addr} {dn dc nn nc : Nat}
theorem KpW.alloc {y z : World} (h : KpW B b y z) (o : Obj) (hB : B ≤ z.heap.size) : KpW B b y (z.alloc o) := h.trans (KpW.ofBelow (alloc_below z o) hB)
theorem KpW.setNew {y z : World} (h : KpW B b y z) (p : Nat) (hB : B ≤ y.heap.size) (hp : y.heap.size ≤ p) (u : Value) : KpW B b y (z.setCell ⟨p, 0, none⟩ u) :=
  ⟨h.os, h.tape, h.output, by simpa [World.setCell] using h.size, fun k hk => by rw [Below.heap_setCell _ _ _ _ (show k ≠ p by omega)]; exact h.low k hk, fun k hk hb hc => by rw [Below.heap_setCell _ _ _ _ (show k ≠ p by omega)]; exact h.oth k hk hb hc⟩
theorem WrT.setOther (h : WrT B w b ws) {p : Nat} {t : TypeId} {cs : Array Value} (hp : BlkAt w p t cs) (ht : t ≠ 9) (hpb : p ≠ b) (u : Value) : WrT B (w.setCell ⟨p, 0, none⟩ u) b ws := by
  obtain ⟨v, h1, h2, h3, h4⟩ := h
  refine ⟨v, h1.other (fun e => hpb e.symm) u, own_keep h2 (fun g hg hlt => Below.heap_setCell _ _ _ _ (fun e => ?_)), h3, h4⟩
  rcases h2.2 with ⟨rfl, _⟩ | ⟨g', cap, cur, rfl, _, hg', _⟩
  · cases hg
  · have e1 : g = g' := by simpa [Value.ownBlock] using hg.symm
    have e2 : g = p := e
    rw [← e1, e2] at hg'
    have := hp.symm.trans hg'
    injection this with this
    injection this with _ e3
    exact ht e3
set_option maxHeartbeats 3200000 in
set_option maxRecDepth 100000 in
theorem try_any (hE : EvR w x da dn dc na nn nc) (hEB : EvB B da dn na nn) (hT : TL w) (h : WrT B w b []) (hB8 : 8 ≤ B) :
    Calls Tryz.prog 29 #[.pointer (some ⟨b, 0, none⟩), .agg (evC x da dn dc na nn nc)] w fun e w' => e = .returned (.int .i64 (evE x)) ∧ (evE x = 0 → WrT B w' b (evW x)) ∧ KpW B b w w' := by
  have hlt := h.lt
  have hBs : B ≤ w.heap.size := by have := h.ge; omega
  have hb1 := alloc_below w (.cells (evC x da dn dc na nn nc) 34)
  have hb2 := belS hb1 (alloc_below (w.alloc (.cells (evC x da dn dc na nn nc) 34)) (.cells #[.int .i64 0] 35))
  have hM : BlkAt ((w.alloc (.cells (evC x da dn dc na nn nc) 34)).alloc (.cells #[.int .i64 0] 35)) w.heap.size 34 (evC x da dn dc na nn nc) := (BlkAt.new w _ _).alloc _
  have hR : BlkAt ((w.alloc (.cells (evC x da dn dc na nn nc) 34)).alloc (.cells #[.int .i64 0] 35)) (w.heap.size + 1) 35 #[.int .i64 0] := by
    have := BlkAt.new (w.alloc (.cells (evC x da dn dc na nn nc) 34)) 35 #[.int .i64 0]
    simpa using this
  obtain ⟨w2, hw2⟩ : ∃ z, z = (w.alloc (.cells (evC x da dn dc na nn nc) 34)).alloc (.cells #[.int .i64 0] 35) := ⟨_, rfl⟩
  rw [← hw2] at hb2 hM hR
  have HV := Lib.hid (event_any (hE.below hb2) hEB (hT.on hb2) (h.below hb2) hB8)
  have kb := Lib.hid (KpW.ofBelow (B := B) (b := b) hb2 hBs)
  have hMI := Tryz.evI (x := x) (da := da) (dn := dn) (dc := dc) (na := na) (nn := nn) (nc := nc)
  replace hw2 := Lib.hid hw2
  obtain ⟨mb, hmb⟩ : ∃ z, z = w.heap.size := ⟨_, rfl⟩
  rw [← hmb] at hM hR
  have hrb : mb + 1 ≠ b := by omega
  have hmw : w.heap.size ≤ mb + 1 := by omega
  replace hmb := Lib.hid hmb
  replace hlt := Lib.hid hlt
  clear hE hT h hb1 hb2
  go_enter_defers Tryz.func29, Tryz.ntmps29
  go_upto_region 1 with (first | (refine wpList_blk_box rfl (.tmp 1) rfl rfl mb hmb.out.symm ?_))
  rw [← hw2.out, ← hmb.out]
  go_wp2_with (first
    | (refine wpList_blk_load rfl (.tmp 3) rfl Tryz.underlying34 rfl rfl hM hMI ?_))
  refine HV.out.mono ?_
  rintro e w3 ⟨⟨hE0, rfl, hW3⟩ | ⟨hE1, rfl⟩, hk3⟩
  · have hR3 := hk3.blk hR hrb (by decide)
    have c0 : w3.cell? ⟨mb + 1, 0, none⟩ = some (.int .i64 0) := BlkAt.cell hR3 rfl
    have f0 := BlkAt.fz hR3 0
    have hkf := Lib.hid ((kb.out.trans hk3).setNew (mb + 1) hBs hmw (.int .i64 0))
    have hWf := Lib.hid (hW3.setOther hR3 (by decide) hrb (.int .i64 0))
    have d0 : (w3.setCell ⟨mb + 1, 0, none⟩ (.int .i64 0)).cell? ⟨mb + 1, 0, none⟩ = some (.int .i64 0) := World.cell?_setCell_same _ _ _ c0
    replace hE0 := Lib.hid hE0
    clear hk3 hW3 hR3 HV kb hM hR
    go_wp2
    refine leaves_cons (f := 31) (args := #[.pointer (some ⟨mb + 1, 0, none⟩)]) (by simp) (by simp [go_sem]) ?_
    refine (caught_idle _ _).mono ?_
    rintro e u' w'' ⟨rfl, rfl, rfl⟩
    simp [Leaves, settle, results, Tryz.results29, go_sem, d0]
    exact ⟨hE0.out.symm, (fun _ => by rw [List.nil_append] at hWf; exact hWf.out), hkf.out⟩
  · have hR3 := hk3.blk hR hrb (by decide)
    have c0 : w3.cell? ⟨mb + 1, 0, none⟩ = some (.int .i64 0) := BlkAt.cell hR3 rfl
    have f0 := BlkAt.fz hR3 0
    have hkf := Lib.hid ((kb.out.trans hk3).setNew (mb + 1) hBs hmw (.int .i64 (evE x)))
    have d0 : (w3.setCell ⟨mb + 1, 0, none⟩ (.int .i64 (evE x))).cell? ⟨mb + 1, 0, none⟩ = some (.int .i64 (evE x)) := World.cell?_setCell_same _ _ _ c0
    replace hE1 := Lib.hid hE1
    clear hk3 hR3 HV kb hM hR
    unfold pan
    refine leaves_cons (f := 31) (args := #[.pointer (some ⟨mb + 1, 0, none⟩)]) (by simp) (by simp [go_sem]) ?_
    refine (caught_err (mb + 1) _ (evE x) [] _ c0 f0).mono ?_
    rintro e u' w'' ⟨rfl, rfl, rfl⟩
    simp [Leaves, settle, results, Tryz.results29, go_sem, d0]
    exact ⟨(fun h => absurd h hE1.out), hkf.out⟩
/-- The words' lengths. -/
theorem prW_len2 {p : Int} (h : prOk p = true) : (prW p).length ≤ 20 := prW_len h
theorem confW_len {c : TCf} (h : prOk c.rp = true) (he : c.ep < 18446744073709551616) : (confW c).length ≤ 41 := by
  have h1 := num_len he
  have h2 := prW_len h
  unfold confW
  rw [List.length_append, List.length_cons]
  omega
theorem nameW_len {n : TNm} (h : prOk n.proc = true) (he : n.inc < 4294967296) : (nameW n).length ≤ 41 := by
  have h1 := num_len (show n.inc < 18446744073709551616 by omega)
  have h2 := prW_len h
  unfold nameW
  rw [List.length_append, List.length_cons]
  omega
theorem depsW_len {l : List Nat} (hd : ∀ d ∈ l, d < 4294967296) : (depsW l).length ≤ 1 + 21 * l.length := by
  have := join_le (k := 20) 44 (l.map Lib.decDigits) (fun w hw => by
    obtain ⟨d, hdm, rfl⟩ := List.mem_map.1 hw
    have := hd d hdm
    exact num_len (by omega))
  unfold depsW
  rw [List.length_cons]
  rw [List.length_map] at this
  omega
theorem EvR.deps_len (h : EvR w x da dn dc na nn nc) : x.m.deps.length = dn := by
  have := h.dr.length_eq
  simpa using this
theorem field_len (h : EvR w x da dn dc na nn nc) (f : Lt) (ho : fieldOk f x = true) : (∀ u ∈ fieldW f x, u.length ≤ 22100000) ∧ (fieldW f x).length ≤ 1048576 := by
  obtain ⟨f1, f2, f3⟩ := h.wf.cf
  obtain ⟨f4, f5, f6⟩ := h.wf.nu
  obtain ⟨m1, m2, m3⟩ := h.wf.mg
  have hnm : x.names.all (fun n => prOk n.proc) = true → (∀ u ∈ x.names.map nameW, u.length ≤ 22100000) ∧ (x.names.map nameW).length ≤ 1048576 := fun ha => by
    refine ⟨fun u hu => ?_, by rw [List.length_map, h.nlen]; exact h.nn⟩
    obtain ⟨n, hn, rfl⟩ := List.mem_map.1 hu
    have := nameW_len (List.all_eq_true.1 ha n hn) (h.wf.nm n hn)
    omega
  have hd := depsW_len m3
  rw [h.deps_len] at hd
  have hdn := h.dn
  have hx1 := hex_len x.m.pay
  have hx2 := hex_len x.state
  have hp1 := h.pay
  have hp2 := h.st
  cases f with
  | c =>
    have := confW_len (c := x.conf) ho f1
    exact ⟨fun u hu => by obtain rfl := List.mem_singleton.1 hu; omega, by show 1 ≤ 1048576; decide⟩
  | n =>
    have := confW_len (c := x.new) ho f2
    exact ⟨fun u hu => by obtain rfl := List.mem_singleton.1 hu; omega, by show 1 ≤ 1048576; decide⟩
  | s =>
    have := num_len f4
    exact ⟨fun u hu => by obtain rfl := List.mem_singleton.1 hu; omega, by show 1 ≤ 1048576; decide⟩
  | m =>
    have ho' : prOk x.m.frm = true ∧ prOk x.m.svc = true := by simpa [fieldOk] using ho
    have a1 := prW_len ho'.1
    have a2 := prW_len ho'.2
    have a3 := num_len (show x.m.seq < 18446744073709551616 by omega)
    have a4 := num_len m2
    refine ⟨fun u hu => ?_, by show 6 ≤ 1048576; decide⟩
    simp only [fieldW, msgW, List.mem_cons, List.not_mem_nil, or_false] at hu
    rcases hu with rfl | rfl | rfl | rfl | rfl | rfl <;> omega
  | v =>
    have a1 := confW_len (c := x.vconf) ho f3
    have a2 := num_len f5
    have a3 := num_len f6
    refine ⟨fun u hu => ?_, by show 3 ≤ 1048576; decide⟩
    simp only [fieldW, List.mem_cons, List.not_mem_nil, or_false] at hu
    rcases hu with rfl | rfl | rfl <;> omega
  | a => exact hnm ho
  | o =>
    have : fieldOk .o x = (decide (x.names.length = 1) && x.names.all (fun n => prOk n.proc)) := rfl
    rw [this, Bool.and_eq_true] at ho
    exact hnm ho.2
  | b => exact ⟨fun u hu => by obtain rfl := List.mem_singleton.1 hu; omega, by show 1 ≤ 1048576; decide⟩
theorem kindW_len : ∀ k : Fin 13, (kindW k.val).length ≤ 7 := by decide +kernel
theorem rowL_len : ∀ k : Fin 13, (rowL k.val).length ≤ 3 := by decide +kernel
theorem flat_le {l : List Lt} {f : Lt → List W8} {n : Nat} (h : ∀ y ∈ l, (f y).length ≤ n) : (l.flatMap f).length ≤ n * l.length := by
  induction l with
  | nil => simp
  | cons y0 l ih =>
    have h1 := h y0 (by simp)
    have h2 := ih (fun y hy => h y (by simp [hy]))
    rw [List.flatMap_cons, List.length_append, List.length_cons, Nat.mul_succ]
    omega
theorem evE_zero (h0 : evE x = 0) : 1 ≤ x.kind ∧ x.kind ≤ 12 ∧ evOk x = true := by
  unfold evE at h0
  split at h0
  · cases h0
  · split at h0
    · rename_i h1 h2
      exact ⟨by omega, by omega, h2⟩
    · cases h0
theorem line_len (h : EvR w x da dn dc na nn nc) (h0 : evE x = 0) : (evW x).length ≤ 3145730 ∧ (lineW x).length ≤ 100000000000000 := by
  obtain ⟨k1, k2, ho⟩ := evE_zero h0
  unfold evOk at ho
  rw [Bool.and_eq_true, List.all_eq_true] at ho
  have hk : x.kind.toNat < 13 := by omega
  have hl1 : (evW x).length ≤ 3145730 := by
    have := flat_le (n := 1048576) (f := (fieldW · x)) (l := rowL x.kind.toNat) (fun f hf => (field_len h f (ho.2 f hf)).2)
    have h3 : (rowL x.kind.toNat).length ≤ 3 := rowL_len ⟨_, hk⟩
    unfold evW
    rw [List.length_cons, List.length_cons]
    have : 1048576 * (rowL x.kind.toNat).length ≤ 1048576 * 3 := Nat.mul_le_mul_left _ h3
    omega
  have hl2 : ∀ u ∈ evW x, u.length ≤ 22100000 := by
    intro u hu
    unfold evW at hu
    rcases List.mem_cons.1 hu with rfl | hu
    · have := prW_len ho.1; omega
    · rcases List.mem_cons.1 hu with rfl | hu
      · have : (kindW x.kind.toNat).length ≤ 7 := kindW_len ⟨_, hk⟩
        omega
      · obtain ⟨f, hf, hu⟩ := List.mem_flatMap.1 hu
        exact (field_len h f (ho.2 f hf)).1 u hu
  refine ⟨hl1, ?_⟩
  have h9 := join_le (k := 22100000) 32 (evW x) hl2
  unfold lineW
  have : (22100000 + 1) * (evW x).length ≤ (22100000 + 1) * 3145730 := Nat.mul_le_mul_left _ hl1
  omega
theorem Rd.blkLt {w : World} {size n c : Nat} {a : Option Addr} {xs : List Value} (h : Rd w size a n c xs) : n ≠ 0 → ∀ g off, a = some ⟨g, off, none⟩ → g < w.heap.size := by
  intro hn g off e
  rcases h.2 with h0 | ⟨b, o, he, hlt, _⟩
  · exact absurd h0 hn
  · rw [e] at he
    simp only [Option.some.injEq, Addr.mk.injEq] at he
    omega
theorem EvR.bound (h : EvR w x da dn dc na nn nc) : EvB w.heap.size da dn na nn := ⟨h.dr.blkLt, h.nr.blkLt⟩
/-- What Print answers. -/
def prS (x : TEv) : ByteArray := if evE x = 0 then mkB (lineW x) else ⟨#[]⟩
set_option maxHeartbeats 3200000 in
set_option maxRecDepth 100000 in
theorem print_any (hE : EvR w x da dn dc na nn nc) (hT : TL w) :
    Calls Tryz.prog 15 #[.agg (evC x da dn dc na nn nc)] w fun e w' => e = .returned (.tuple #[.string (prS x), .int .i64 (evE x)]) ∧ Below w.heap.size w w' := by
  have hb1 := alloc_below w (.cells (evC x da dn dc na nn nc) 34)
  have hb2 := belS hb1 (alloc_below (w.alloc (.cells (evC x da dn dc na nn nc) 34)) (.cells #[.slice none 0 0] 79))
  have hM : BlkAt ((w.alloc (.cells (evC x da dn dc na nn nc) 34)).alloc (.cells #[.slice none 0 0] 79)) w.heap.size 34 (evC x da dn dc na nn nc) := (BlkAt.new w _ _).alloc _
  have hR : BlkAt ((w.alloc (.cells (evC x da dn dc na nn nc) 34)).alloc (.cells #[.slice none 0 0] 79)) (w.heap.size + 1) 79 #[.slice none 0 0] := by
    have := BlkAt.new (w.alloc (.cells (evC x da dn dc na nn nc) 34)) 79 #[.slice none 0 0]
    simpa using this
  obtain ⟨w2, hw2⟩ : ∃ z, z = (w.alloc (.cells (evC x da dn dc na nn nc) 34)).alloc (.cells #[.slice none 0 0] 79) := ⟨_, rfl⟩
  rw [← hw2] at hb2 hM hR
  have hW : WrT w.heap.size w2 (w.heap.size + 1) [] := ⟨.slice none 0 0, hR, World.ownsRow_nil _ _ _ _, (fun e => by cases e), by omega⟩
  have HV := Lib.hid (try_any (hE.below hb2) hE.bound (hT.on hb2) hW hT.big)
  have hbb := Lib.hid hb2
  have hMI := Tryz.evI (x := x) (da := da) (dn := dn) (dc := dc) (na := na) (nn := nn) (nc := nc)
  have hl := Lib.hid (fun h0 => line_len hE h0)
  replace hw2 := Lib.hid hw2
  obtain ⟨mb, hmb⟩ : ∃ z, z = w.heap.size := ⟨_, rfl⟩
  rw [← hmb] at hM HV
  replace hmb := Lib.hid hmb
  clear hE hT hb1 hb2 hW hR
  go_enter Tryz.func15, Tryz.ntmps15
  go_upto_region 1 with (first | (refine wpList_blk_box rfl (.tmp 0) rfl rfl mb hmb.out.symm ?_))
  go_upto_region 2 with (fail)
  rw [← hw2.out, ← hmb.out]
  go_wp2_with (first
    | (refine wpList_blk_load rfl (.tmp 1) rfl Tryz.underlying34 rfl rfl hM hMI ?_))
  refine HV.out.mono ?_
  rintro e w3 ⟨rfl, hW3, hk3⟩
  have hb3 := Lib.hid ((hbb.out.trans (hmb.out ▸ hk3.below)))
  by_cases h0 : evE x = 0
  · obtain ⟨v, hv1, hv2, hv3, hv4⟩ := hW3 h0
    obtain ⟨l1, l2⟩ := hl.out h0
    obtain ⟨oa, oc, rfl, hrd⟩ := Rd.own hv2
    have c0 : w3.cell? ⟨mb + 1, 0, none⟩ = some (.slice oa (evW x).length oc) := BlkAt.cell hv1 rfl
    have HJ := Lib.hid (join_any (evW x) oa _ oc 32 w3 hrd (by omega) (by have : (Lib.join (evW x) [32]).length ≤ 100000000000000 := l2; omega))
    have hz := Lib.hid (show prS x = mkB (Lib.join (evW x) [32]) from if_pos h0)
    have hez := h0
    generalize (evW x).length = m at *
    clear hW3 hv1 hv2 hv3 hv4 hrd hk3 l1 l2 h0
    rw [hez]
    go_wp2_with fail
    refine HJ.out.mono ?_
    rintro e w4 ⟨rfl, hb4⟩
    go_wp2
    refine bodyPost_ret (v := .tuple #[.string (mkB (Lib.join (evW x) [32])), .int .i64 0]) (by simp [results, Tryz.results15, go_sem]) rfl ?_
    exact ⟨by rw [hz.out, hez], hb3.out.trans (hb4.mono hb3.out.size)⟩
  · have hz := Lib.hid (show prS x = ⟨#[]⟩ from if_neg h0)
    have h0b : (evE x != 0) = true := by simpa using h0
    clear hW3 hk3
    go_wp2
    refine bodyPost_ret (v := .tuple #[.string ⟨#[]⟩, .int .i64 (evE x)]) (by simp [results, Tryz.results15, go_sem]) rfl ?_
    exact ⟨by rw [hz.out], hb3.out⟩
end
end Go.Proofs.YtpkknhhohbobaaaGreatDoor
