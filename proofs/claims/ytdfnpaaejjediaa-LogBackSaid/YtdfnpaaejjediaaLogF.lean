/- log: walks of caught, of the functions that are deferred, of Print -/
import Derived.Test.YtdfnpaaejjediaaLogE
import Derived.Defers
import Derived.Recover
namespace Go.Proofs.Ytdfnpaaejjediaa
open Go.RowKit

theorem ta_err (e : Int) (w : World) : (Instr.typeAssert (.iface 36 (.int .i64 e)) 20 36 true).run Try.prog w = .ok (.tuple #[.int .i64 e, .bool true]) w := by kernel_rfl
theorem ta_nil (w : World) : (Instr.typeAssert .nilIface 20 36 true).run Try.prog w = .ok (.tuple #[.int .i64 0, .bool false]) w := by kernel_rfl
set_option maxHeartbeats 400000 in
theorem caught_err (e : Int) (w : World) : Calls Try.prog 24 #[.iface 36 (.int .i64 e)] w fun x w' => x = .returned (.int .i64 e) ∧ w = w' := by
  have h := fun w => ta_err e w
  go_enter Try.func24, Try.ntmps24
  go_wp2
  go_ret
  exact ⟨rfl, rfl⟩
set_option maxHeartbeats 400000 in
theorem caught_nil (w : World) : Calls Try.prog 24 #[.nilIface] w fun x w' => x = .returned (.int .i64 0) ∧ w = w' := by
  have h := ta_nil
  go_enter Try.func24, Try.ntmps24
  go_wp2
  go_ret
  exact ⟨rfl, rfl⟩
/-- The two named results' cells. -/
structure Res2 (w : World) (b c : Nat) (x y : Value) : Prop where
  c0 : w.cell? ⟨b, 0, none⟩ = some x
  c1 : w.cell? ⟨c, 0, none⟩ = some y
  f0 : w.frozen? ⟨b, 0, none⟩ = false
  f1 : w.frozen? ⟨c, 0, none⟩ = false
  ne : b ≠ c
set_option maxHeartbeats 1000000 in
theorem catchP_err (p q : Nat) (x y : Value) (e : Int) (he : e ≠ 0) (older : List PanicEntry) (w : World) (h : Res2 w p q x y) :
    CallsD Try.prog 23 #[.pointer (some ⟨p, 0, none⟩), .pointer (some ⟨q, 0, none⟩)] (.panicking ({ v := .iface 36 (.int .i64 e), recovered := false } :: older)) w fun x u' w' =>
      x = .returned (.tuple #[]) ∧ u' = .panicking ({ v := .iface 36 (.int .i64 e), recovered := true } :: older) ∧ w' = (w.setCell ⟨p, 0, none⟩ (.string ⟨#[]⟩)).setCell ⟨q, 0, none⟩ (.int .i64 e) := by
  obtain ⟨hp, hq, hp', hq', hne⟩ := h
  have hq2 : (w.setCell ⟨p, 0, none⟩ (.string ⟨#[]⟩)).cell? ⟨q, 0, none⟩ = some y := (World.cell?_setCell_other _ _ _ _ (by first | (simp; done) | (simp; omega))).trans hq
  have heI : (e == 0) = false := by rw [beq_eq_false_iff_ne]; exact he
  refine callsD_of_wpS Try.func23 rfl fun c₀ cs hu => ?_
  apply wpS_seq
  apply wpS_region
  simp [wpOpsS, go_sem, recoverD, hu, Try.ntmps23, Exit.thenS, Array.replicate, List.replicate]
  refine (caught_err e w).mono ?_
  rintro x w1 ⟨rfl, rfl⟩
  simp [wpOpsS, go_sem, Exit.thenS]
  refine wpS_of_wp ?_
  go_wp2
  cases c₀
  simp_all [bodyPostS, results, Try.results23]
set_option maxHeartbeats 1000000 in
theorem catchP_idle (p q : Nat) (w : World) :
    CallsD Try.prog 23 #[.pointer (some ⟨p, 0, none⟩), .pointer (some ⟨q, 0, none⟩)] .returning w fun x u' w' => x = .returned (.tuple #[]) ∧ u' = .returning ∧ w' = w := by
  refine callsD_of_wpS Try.func23 rfl fun c₀ cs hu => ?_
  apply wpS_seq
  apply wpS_region
  simp [wpOpsS, go_sem, recoverD, hu, Try.ntmps23, Exit.thenS, Array.replicate, List.replicate]
  refine (caught_nil w).mono ?_
  rintro x w1 ⟨rfl, rfl⟩
  simp [wpOpsS, go_sem, Exit.thenS]
  refine wpS_of_wp ?_
  go_wp2
  cases c₀
  simp_all [bodyPostS, results, Try.results23]
set_option maxHeartbeats 1000000 in
theorem catchI_err (p q : Nat) (x y : Value) (e : Int) (he : e ≠ 0) (older : List PanicEntry) (w : World) (h : Res2 w p q x y) :
    CallsD Try.prog 29 #[.pointer (some ⟨p, 0, none⟩), .pointer (some ⟨q, 0, none⟩)] (.panicking ({ v := .iface 36 (.int .i64 e), recovered := false } :: older)) w fun x u' w' =>
      x = .returned (.tuple #[]) ∧ u' = .panicking ({ v := .iface 36 (.int .i64 e), recovered := true } :: older) ∧ w' = (w.setCell ⟨p, 0, none⟩ (.string ⟨#[]⟩)).setCell ⟨q, 0, none⟩ (.int .i64 e) := by
  obtain ⟨hp, hq, hp', hq', hne⟩ := h
  have hq2 : (w.setCell ⟨p, 0, none⟩ (.string ⟨#[]⟩)).cell? ⟨q, 0, none⟩ = some y := (World.cell?_setCell_other _ _ _ _ (by first | (simp; done) | (simp; omega))).trans hq
  have heI : (e == 0) = false := by rw [beq_eq_false_iff_ne]; exact he
  refine callsD_of_wpS Try.func29 rfl fun c₀ cs hu => ?_
  apply wpS_seq
  apply wpS_region
  simp [wpOpsS, go_sem, recoverD, hu, Try.ntmps29, Exit.thenS, Array.replicate, List.replicate]
  refine (caught_err e w).mono ?_
  rintro x w1 ⟨rfl, rfl⟩
  simp [wpOpsS, go_sem, Exit.thenS]
  refine wpS_of_wp ?_
  go_wp2
  cases c₀
  simp_all [bodyPostS, results, Try.results29]
set_option maxHeartbeats 1000000 in
theorem catchI_idle (p q : Nat) (w : World) :
    CallsD Try.prog 29 #[.pointer (some ⟨p, 0, none⟩), .pointer (some ⟨q, 0, none⟩)] .returning w fun x u' w' => x = .returned (.tuple #[]) ∧ u' = .returning ∧ w' = w := by
  refine callsD_of_wpS Try.func29 rfl fun c₀ cs hu => ?_
  apply wpS_seq
  apply wpS_region
  simp [wpOpsS, go_sem, recoverD, hu, Try.ntmps29, Exit.thenS, Array.replicate, List.replicate]
  refine (caught_nil w).mono ?_
  rintro x w1 ⟨rfl, rfl⟩
  simp [wpOpsS, go_sem, Exit.thenS]
  refine wpS_of_wp ?_
  go_wp2
  cases c₀
  simp_all [bodyPostS, results, Try.results29]
def prS (s : St) : ByteArray := if recE s.rc = 0 then strOfNums (stB s) else ⟨#[]⟩
theorem Rd.blkLt {w : World} {size n c : Nat} {a : Option Addr} {xs : List Value} (h : Rd w size a n c xs) : n ≠ 0 → ∀ g off, a = some ⟨g, off, none⟩ → g < w.heap.size := by
  intro hn g off e
  rcases h.2 with h0 | ⟨b, o, he, hlt, _⟩
  · exact absurd h0 hn
  · rw [e] at he
    simp only [Option.some.injEq, Addr.mk.injEq] at he
    omega
theorem scells {W : World} {g : Nat} {t : TypeId} {v0 v1 v2 v3 v4 v5 v6 : Value} (h : BlkAt W g t #[v0, v1, v2, v3, v4, v5, v6]) : W.cell? ⟨g, 0, none⟩ = some v0 ∧ W.cell? ⟨g, 1, none⟩ = some v1 ∧ W.cell? ⟨g, 2, none⟩ = some v2 ∧ W.cell? ⟨g, 3, none⟩ = some v3 ∧ W.cell? ⟨g, 4, none⟩ = some v4 ∧ W.cell? ⟨g, 5, none⟩ = some v5 ∧ W.cell? ⟨g, 6, none⟩ = some v6 :=
  ⟨h.cell rfl, h.cell rfl, h.cell rfl, h.cell rfl, h.cell rfl, h.cell rfl, h.cell rfl⟩
theorem WrAt.nil {B : Nat} {w : World} (hB : B ≤ w.heap.size) : WrAt B (w.alloc (.cells #[.slice none 0 0] 70)) w.heap.size [] := ⟨.slice none 0 0, BlkAt.new w _ _, World.ownsRow_nil _ _ _ _, (fun e => by cases e), hB⟩
theorem WrAt.str {B : Nat} {w : World} {b : Nat} {l : List Int} (h : WrAt B w b l) : ∃ a n c, w.cell? ⟨b, 0, none⟩ = some (.slice a n c) ∧ Rd w 1 a n c (l.map (Value.int .u8)) ∧ Hid (n = l.length) := by
  obtain ⟨v, h1, h2, _⟩ := h
  obtain ⟨a, c, rfl, hr⟩ := Rd.own h2
  exact ⟨a, _, c, h1.cell rfl, hr, rfl⟩
theorem Res2.set {w : World} {b c : Nat} {x y : Value} (h : Res2 w b c x y) (x' y' : Value) : Res2 ((w.setCell ⟨b, 0, none⟩ x').setCell ⟨c, 0, none⟩ y') b c x' y' := by
  have hne := h.ne
  refine ⟨?_, ?_, ?_, ?_, hne⟩
  · rw [World.cell?_setCell_other _ _ _ _ (by first | (simp; done) | (simp; omega)), World.cell?_setCell_same _ _ _ h.c0]
  · rw [World.cell?_setCell_same _ _ _ ((World.cell?_setCell_other _ _ _ _ (by first | (simp; done) | (simp; omega))).trans h.c1)]
  · rw [World.frozen?_setCell, World.frozen?_setCell]; exact h.f0
  · rw [World.frozen?_setCell, World.frozen?_setCell]; exact h.f1
theorem Res2.mk2 {w : World} {b c : Nat} {t1 t2 : TypeId} {x y : Value} (h1 : BlkAt w b t1 #[x]) (h2 : BlkAt w c t2 #[y]) (hne : b ≠ c) : Res2 w b c x y := ⟨h1.cell rfl, h2.cell rfl, h1.fz 0, h2.fz 0, hne⟩
set_option maxHeartbeats 3200000 in
set_option maxRecDepth 100000 in
theorem print_any (s : St) (pa : Option Addr) (pn pc : Nat) (hw : s.Wf) (w : World) (hp : RdV w pa pn pc s.rc.pend) :
    Calls Try.prog 8 #[.agg #[.int .u64 s.epoch, .int .u32 s.inc, .int .u64 s.rc.last.num, .int .u64 s.rc.last.ce, .int .i64 s.rc.last.cr, .int .u64 s.rc.last.mem, .slice pa pn pc]] w fun e w' => e = .returned (.tuple #[.string (prS s), .int .i64 (recE s.rc)]) ∧ Below w.heap.size w w' := by
  have hmf : ∀ (fn : Fn) (first cap : Array Value) (w : World), (Instr.makeFunc fn first cap).run Try.prog w = .ok (.func fn first cap) w := fun _ _ _ _ => rfl
  obtain ⟨hw1, hw2, hw3⟩ := hw
  have hpl := Rd.blkLt hp
  obtain ⟨wS, hwS⟩ : ∃ wS, wS = (((w.alloc (.cells #[.int .u64 s.epoch, .int .u32 s.inc, .int .u64 s.rc.last.num, .int .u64 s.rc.last.ce, .int .i64 s.rc.last.cr, .int .u64 s.rc.last.mem, .slice pa pn pc] 32)).alloc (.cells #[.string ⟨#[]⟩] 9)).alloc (.cells #[.int .i64 0] 36)).alloc (.cells #[.slice none 0 0] 70) := ⟨_, rfl⟩
  have hbS : Below w.heap.size w wS := by rw [hwS]; exact ((((Below.refl _ _).alloc (Nat.le_refl _) _).alloc (by simp) _).alloc (by simp <;> omega) _).alloc (by simp <;> omega) _
  have BA : BlkAt wS w.heap.size 32 #[.int .u64 s.epoch, .int .u32 s.inc, .int .u64 s.rc.last.num, .int .u64 s.rc.last.ce, .int .i64 s.rc.last.cr, .int .u64 s.rc.last.mem, .slice pa pn pc] := by rw [hwS]; exact (((BlkAt.new w _ _).alloc _).alloc _).alloc _
  have BT : BlkAt wS (w.heap.size + 1) 9 #[.string ⟨#[]⟩] := by
    rw [hwS]
    have := BlkAt.new (w.alloc (.cells #[.int .u64 s.epoch, .int .u32 s.inc, .int .u64 s.rc.last.num, .int .u64 s.rc.last.ce, .int .i64 s.rc.last.cr, .int .u64 s.rc.last.mem, .slice pa pn pc] 32)) 9 #[.string ⟨#[]⟩]
    exact ((by simpa using this : BlkAt _ (w.heap.size + 1) _ _).alloc _).alloc _
  have BE : BlkAt wS (w.heap.size + 1 + 1) 36 #[.int .i64 0] := by
    rw [hwS]
    have := BlkAt.new ((w.alloc (.cells #[.int .u64 s.epoch, .int .u32 s.inc, .int .u64 s.rc.last.num, .int .u64 s.rc.last.ce, .int .i64 s.rc.last.cr, .int .u64 s.rc.last.mem, .slice pa pn pc] 32)).alloc (.cells #[.string ⟨#[]⟩] 9)) 36 #[.int .i64 0]
    exact (by simpa using this : BlkAt _ (w.heap.size + 1 + 1) _ _).alloc _
  have HW : WrAt w.heap.size wS (w.heap.size + 1 + 1 + 1) [] := by
    rw [hwS]
    have := WrAt.nil (B := w.heap.size) (w := ((w.alloc (.cells #[.int .u64 s.epoch, .int .u32 s.inc, .int .u64 s.rc.last.num, .int .u64 s.rc.last.ce, .int .i64 s.rc.last.cr, .int .u64 s.rc.last.mem, .slice pa pn pc] 32)).alloc (.cells #[.string ⟨#[]⟩] 9)).alloc (.cells #[.int .i64 0] 36)) (by simp <;> omega)
    simpa using this
  have hpS : RdV wS pa pn pc s.rc.pend := hp.below hbS (Nat.le_refl _)
  replace hwS := Lib.hid hwS
  clear hp
  go_enter_defers Try.func8, Try.ntmps8
  go_wp2_with fail
  rw [← hwS.out]
  (refine (wnum1 _ HW (by first | omega | (simp only [List.length_append, beL_len, vwB_len, List.length_nil]; omega)) (by omega) (by omega)).mono ?_; rintro e wa ⟨rfl, hwa, kwa⟩)
  (replace BA := kwa.blk BA (by omega); replace BT := kwa.blk BT (by omega); replace BE := kwa.blk BE (by omega); replace hpS := kwa.rd0 hpS (fun h g off e => by have := hpl h g off e; omega); replace hbS := Kp.below hbS kwa (by omega) hbS.size; obtain ⟨c0, c1, c2, c3, c4, c5, c6⟩ := scells BA)
  (go_wp2_with fail; refine (wnum8 _ hwa (by first | omega | (simp only [List.length_append, beL_len, vwB_len, List.length_nil]; omega)) (by omega) (by omega)).mono ?_; rintro e wb ⟨rfl, hwb, kwb⟩)
  (replace BA := kwb.blk BA (by omega); replace BT := kwb.blk BT (by omega); replace BE := kwb.blk BE (by omega); replace hpS := kwb.rd0 hpS (fun h g off e => by have := hpl h g off e; omega); replace hbS := Kp.below hbS kwb (by omega) hbS.size; obtain ⟨c0, c1, c2, c3, c4, c5, c6⟩ := scells BA)
  (go_wp2_with fail; refine (wnum4 _ hwb (by first | omega | (simp only [List.length_append, beL_len, vwB_len, List.length_nil]; omega)) (by omega) (by omega)).mono ?_; rintro e wc ⟨rfl, hwc, kwc⟩)
  (replace BA := kwc.blk BA (by omega); replace BT := kwc.blk BT (by omega); replace BE := kwc.blk BE (by omega); replace hpS := kwc.rd0 hpS (fun h g off e => by have := hpl h g off e; omega); replace hbS := Kp.below hbS kwc (by omega) hbS.size; obtain ⟨c0, c1, c2, c3, c4, c5, c6⟩ := scells BA)
  have hR := Lib.hid (wrec_any (w := wc) s.rc pa pn pc hw3 hpS (fun h g off e => by have := hpl h g off e; omega) hwc (by simp only [List.length_append, beL_len, List.length_nil]; omega))
  go_wp2_with fail
  refine hR.out.mono ?_
  rintro e wd ⟨⟨hE, rfl, hwd⟩ | ⟨hE, rfl⟩, kwd⟩
  · have HP := Lib.hid (show prS s = strOfNums (stB s) from if_pos hE)
    have HB := Lib.hid (show stB s = beL 1 1 1 ++ (beL s.epoch 8 8 ++ (beL s.inc 4 4 ++ recB s.rc)) from rfl)
    have hE := Lib.hid hE
    replace BT := kwd.blk BT (by omega)
    replace BE := kwd.blk BE (by omega)
    have hbd := Kp.below hbS kwd (by omega) hbS.size
    obtain ⟨wr, wn, wc', c0, hr, _⟩ := hwd.str
    have R2 := (Res2.mk2 BT BE (by omega))
    have R3 := R2
    obtain ⟨t0, t1, t2, t3, _⟩ := R2
    go_wp2_with (refine wpList_bytes_str (t := 68) (d := 9) (e := 5) Try.underlying68 Try.underlying5 Try.underlying9 rfl (.tmp 26) rfl rfl hr ?_; intro S hS hS1 hS2)
    refine leaves_cons (f := 23) (args := #[.pointer (some ⟨w.heap.size + 1, 0, none⟩), .pointer (some ⟨w.heap.size + 1 + 1, 0, none⟩)]) (by simp) (by simp [go_sem]) ?_
    refine (catchP_idle _ _ _).mono ?_
    rintro e u' w'' ⟨rfl, rfl, rfl⟩
    obtain ⟨d0, d1, _, _, _⟩ := R3.set (.string S) (.int .i64 0)
    have hbF : Below w.heap.size w ((wd.setCell ⟨w.heap.size + 1, 0, none⟩ (.string S)).setCell ⟨w.heap.size + 1 + 1, 0, none⟩ (.int .i64 0)) := (hbd.setCell (by simp) _).setCell (by simp; omega) _
    have hS2 : S = prS s := by rw [hS.out, HP.out, HB.out]; simp
    simp [Leaves, settle, results, Try.results8, go_sem, d0, d1]
    exact ⟨⟨hS2, hE.out.symm⟩, hbF⟩
  · have HP := Lib.hid (show prS s = ⟨#[]⟩ from if_neg hE)
    replace BT := kwd.blk BT (by omega)
    replace BE := kwd.blk BE (by omega)
    have hbd := Kp.below hbS kwd (by omega) hbS.size
    have R2 := (Res2.mk2 BT BE (by omega))
    unfold pan
    refine leaves_cons (f := 23) (args := #[.pointer (some ⟨w.heap.size + 1, 0, none⟩), .pointer (some ⟨w.heap.size + 1 + 1, 0, none⟩)]) (by simp) (by simp [go_sem]) ?_
    refine (catchP_err _ _ _ _ _ hE [] _ R2).mono ?_
    rintro e u' w'' ⟨rfl, rfl, rfl⟩
    obtain ⟨d0, d1, _, _, _⟩ := R2.set (.string ⟨#[]⟩) (.int .i64 (recE s.rc))
    have hbF : Below w.heap.size w ((wd.setCell ⟨w.heap.size + 1, 0, none⟩ (.string ⟨#[]⟩)).setCell ⟨w.heap.size + 1 + 1, 0, none⟩ (.int .i64 (recE s.rc))) := (hbd.setCell (by simp) _).setCell (by simp; omega) _
    simp [Leaves, settle, results, Try.results8, go_sem, d0, d1]
    exact ⟨HP.out.symm, hbF⟩
end Go.Proofs.Ytdfnpaaejjediaa
