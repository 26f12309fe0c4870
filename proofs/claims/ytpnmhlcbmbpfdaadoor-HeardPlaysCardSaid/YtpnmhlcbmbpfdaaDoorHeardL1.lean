/- what the laws of the ear carry; the walk of awake; an act's reading -/
import Derived.Test.YtpnmhlcbmbpfdaaDoorHeardM
namespace Go.Proofs.YtpnmhlcbmbpfdaaDoor
open Go.RowKit Go.Sort

structure HEnv (w0 : World) (b : Nat) (s : ES) (W : World) : Prop where
  bel : Below w0.heap.size w0 W
  old : w0.heap.size ≤ b
  tab : Tab W
  ear : EarAt W b s
section
variable {w0 W W' : World} {b : Nat} {s t : ES}
theorem HEnv.below (h : HEnv w0 b s W) (k : Below W.heap.size W W') : HEnv w0 b s W' := ⟨belS h.bel k, h.old, h.tab.below k h.tab.1, h.ear.below k h.ear.lt⟩
theorem HEnv.kp (h : HEnv w0 b s W) (h0 : 0 < w0.heap.size) (k : Kp b W W') (hw : EarAt W' b t) : HEnv w0 b t W' :=
  ⟨Kp.below h.bel k h.old h.bel.size, h.old, ⟨Nat.lt_of_lt_of_le h.tab.1 k.size, fun j hj => (World.cell?_of_block (w := W) (k.block 0 h.tab.1 (by have := h.old; omega))).trans (h.tab.2 j hj)⟩, hw⟩
/-- Something else is written. -/
theorem HEnv.kpo {c : Nat} (h : HEnv w0 b s W) (h0 : 0 < w0.heap.size) (ho : w0.heap.size ≤ c) (hn : b ≠ c) (k : Kp c W W') : HEnv w0 b s W' :=
  ⟨Kp.below h.bel k ho h.bel.size, h.old, ⟨Nat.lt_of_lt_of_le h.tab.1 k.size, fun j hj => (World.cell?_of_block (w := W) (k.block 0 h.tab.1 (by omega))).trans (h.tab.2 j hj)⟩, k.blk h.ear hn⟩
end
theorem ES.nw_ok (me n timeout : Int) : (ES.nw me n timeout).Ok := ⟨but_lt _ _ (allN_lt n), Nat.zero_le _, fun _ => Nat.le_refl _⟩
theorem ES.forget_ok {s : ES} (hs : s.Ok) (x : Nat) : (s.forget x).Ok := forgL_ok _ hs
def aw0 : ES := ES.nw 0 3 2
def aw1 : ES := aw0.hear 1
def aw2 : ES := aw1.beat 2 ⟨4, 0, 0, 0, 3⟩
def aw3 : ES := aw2.tick
def aw4 : ES := aw3.tick
def aw5 : ES := aw4.tick
theorem aw0_ok : aw0.Ok := ES.nw_ok 0 3 2
theorem aw1_ok : aw1.Ok := ES.hear_ok aw0_ok 1
theorem aw2_ok : aw2.Ok := ES.beat_ok aw1_ok 2 _
theorem aw3_ok : aw3.Ok := ES.tick_ok aw2_ok (by decide +kernel)
theorem aw4_ok : aw4.Ok := ES.tick_ok aw3_ok (by decide +kernel)
theorem aw5_ok : aw5.Ok := ES.tick_ok aw4_ok (by decide +kernel)
theorem aw_f : aw4.reach = 7 ∧ aw5.reach = 1 ∧ aw5.epoch = 4 ∧ aw5.strange 7 9 0 = 4 ∧ (aw5.l 2).said = true ∧ hasB aw5.oth 2 = true := by decide +kernel
theorem aw_b : (aw5.l 2).b = ⟨4, 0, 0, 0, 3⟩ := by rfl

set_option maxHeartbeats 1600000 in
set_option maxRecDepth 100000 in
theorem awake_any (w : World) (hT : Tab w) : Calls Tryd.prog 7 #[] w fun e w' => e = .returned (.bool true) ∧ Below w.heap.size w w' := by
  have hpos := hT.1
  obtain ⟨f1, f2, f3, f4, f5, f6⟩ := aw_f
  have HOF := Lib.hid (fun W h => of_yes aw5 aw5_ok 2 W h)
  go_enter Tryd.func7, Tryd.ntmps7
  go_wp2_with fail
  refine (ear_new 0 3 2 _).mono ?_
  rintro e w2 ⟨b, rfl, hb, hwin, hbel⟩
  have E : HEnv w b aw0 w2 := ⟨hbel, hb, hT.below hbel hpos, hwin⟩
  clear hwin hbel
  go_wp2_with fail
  refine (hear_any aw0 aw0_ok 1 b _ E.ear).mono ?_
  rintro e w3 ⟨rfl, hw, hk⟩
  replace E : HEnv w b aw1 w3 := E.kp hpos hk hw
  clear hw hk
  go_wp2_with fail
  refine (beat_any aw1 aw1_ok 2 ⟨4, 0, 0, 0, 3⟩ b _ E.ear).mono ?_
  rintro e w4 ⟨rfl, hw, hk⟩
  replace E : HEnv w b aw2 w4 := E.kp hpos hk hw
  clear hw hk
  go_wp2_with fail
  refine (tick_any aw2 aw2_ok b _ E.ear).mono ?_
  rintro e w5 ⟨rfl, hw, hk⟩
  replace E : HEnv w b aw3 w5 := E.kp hpos hk hw
  clear hw hk
  go_wp2_with fail
  refine (tick_any aw3 aw3_ok b _ E.ear).mono ?_
  rintro e w6 ⟨rfl, hw, hk⟩
  replace E : HEnv w b aw4 w6 := E.kp hpos hk hw
  clear hw hk
  go_wp2_with fail
  refine (reach_any aw4 aw4_ok b _ E.ear E.tab).mono ?_
  rintro e w7 ⟨rfl, hbb⟩
  rw [f1]
  replace E := E.below hbb
  go_wp2_with fail
  refine (tick_any aw4 aw4_ok b _ E.ear).mono ?_
  rintro e w8 ⟨rfl, hw, hk⟩
  replace E : HEnv w b aw5 w8 := E.kp hpos hk hw
  clear hw hk
  go_wp2_with fail
  refine (of_yes aw5 aw5_ok 2 b _ E.ear (by decide) f6 f5).mono ?_
  rintro e w9 ⟨rfl, hbb⟩
  rw [aw_b]
  replace E := E.below hbb
  have hbx := E.ear.lt
  go_wp2_with fail
  have hA := BlkAt.new w9 33 #[.int .u64 4, .int .i64 0, .int .u64 0, .int .i64 0, .int .u64 3]
  replace E := E.below ((Below.refl _ _).alloc (Nat.le_refl _) (.cells #[.int .u64 4, .int .i64 0, .int .u64 0, .int .i64 0, .int .u64 3] 33))
  refine (reach_any aw5 aw5_ok b _ E.ear E.tab).mono ?_
  rintro e w10 ⟨rfl, hbb⟩
  rw [f2]
  replace E := E.below hbb
  have a2 : w10.cell? ⟨w9.heap.size, 4, none⟩ = some (.int .u64 3) := (hA.below hbb hA.lt).cell rfl
  go_wp2_with fail
  refine (epoch_any aw5 b _ E.ear).mono ?_
  rintro e w11 ⟨rfl, hbb⟩
  rw [f3]
  replace E := E.below hbb
  go_wp2_with fail
  refine (allS_any 3 _).mono ?_
  rintro e w' ⟨rfl, rfl⟩
  rw [show allN 3 = 7 from by decide]
  go_wp2_with fail
  refine (strange_any aw5 aw5_ok 7 9 0 (by decide) b _ E.ear E.tab).mono ?_
  rintro e w12 ⟨rfl, hbb⟩
  rw [f4]
  replace E := E.below hbb
  go_wp2_with fail
  refine (of_any 1 1 _ [2] _ (by decide) (Rd.lit (by first | rfl | simp) rfl (by decide))).mono ?_
  rintro e w' ⟨rfl, rfl⟩
  rw [show withN 0 [2] = 4 from by decide]
  go_wp2
  go_ret
  exact ⟨rfl, E.bel.alloc E.bel.size _⟩

/-- An act. -/
structure Ac where
  kind : Int
  p : Int
  b : Bt
  s : Nat
def acF (x : Ac) : List Value := [.int .i64 x.kind, .int .i64 x.p, .int .u64 x.b.ce, .int .i64 x.b.cr, .int .u64 x.b.pe, .int .i64 x.b.pr, .int .u64 x.b.ep, .int .u64 x.s]
def RConf : World → List Value → Int × Int → Prop := RPair (RInt .u64) (RInt .i64)
def RAc : World → List Value → Int × Int × ((Int × Int) × (Int × Int) × Int) × Int → Prop := RPair (RInt .i64) (RPair (RInt .i64) (RPair (RPair RConf (RPair RConf (RInt .u64))) (RInt .u64)))
theorem opens_ac {H : Type} {enc : TypeId × Value → H} {W : World} : Opens enc Tryd.prog W 22 (RSlc RAc 8) :=
  have hc : Opens enc Tryd.prog W 25 RConf := opens_struct Tryd.underlying25 (by kernel_rfl) (OpensFs.cons (sz := 1) (total := 1) rfl (by kernel_rfl) (opens_int Tryd.underlying23) (OpensFs.one rfl (by kernel_rfl) (opens_int Tryd.underlying3)))
  have hb : Opens enc Tryd.prog W 33 (RPair RConf (RPair RConf (RInt .u64))) := opens_struct Tryd.underlying33 (by kernel_rfl) (OpensFs.cons (sz := 2) (total := 3) rfl (by kernel_rfl) hc (OpensFs.cons (sz := 2) (total := 1) rfl (by kernel_rfl) hc (OpensFs.one rfl (by kernel_rfl) (opens_int Tryd.underlying23))))
  opens_slice (sz := 8) Tryd.underlying22 (by kernel_rfl) (by decide) (opens_struct Tryd.underlying35 (by kernel_rfl) (OpensFs.cons (sz := 1) (total := 7) rfl (by kernel_rfl) (opens_int Tryd.underlying3) (OpensFs.cons (sz := 1) (total := 6) rfl (by kernel_rfl) (opens_int Tryd.underlying3) (OpensFs.cons (sz := 5) (total := 1) rfl (by kernel_rfl) hb (OpensFs.one rfl (by kernel_rfl) (opens_int Tryd.underlying23))))))
def toAc (x : Int × Int × ((Int × Int) × (Int × Int) × Int) × Int) : Ac := ⟨x.1, x.2.1, ⟨x.2.2.1.1.1.toNat, x.2.2.1.1.2, x.2.2.1.2.1.1.toNat, x.2.2.1.2.1.2, x.2.2.1.2.2.toNat⟩, x.2.2.2.toNat⟩
theorem RSl.ac {w : World} {a : Option Addr} {n c : Nat} {l : List (Int × Int × ((Int × Int) × (Int × Int) × Int) × Int)} (hl : RSl RAc 8 w a n c l) : ∃ l' : List Ac, Rd w 8 a n c (l'.flatMap acF) ∧ l'.length = n ∧ ∀ x ∈ l', x.s < 18446744073709551616 := by
  refine ⟨l.map toAc, ?_, by rw [List.length_map]; exact hl.1.1, fun x hx => ?_⟩
  · rw [List.flatMap_map]
    refine hl.flat (fun x => acF (toAc x)) (fun _ => rfl) (by decide) ?_
    rintro w cs ⟨k, p, ⟨⟨ce, cr⟩, ⟨pe, pr⟩, ep⟩, s⟩ ⟨c1, c2, e, ⟨e1, _⟩, c3, c4, e', ⟨e2, _⟩, c5, c6, e'', ⟨c7, c8, e3, ⟨d1, d2, e4, ⟨e5, f5⟩, e6, _⟩, c9, c10, e7, ⟨d3, d4, e8, ⟨e9, f9⟩, e10, _⟩, e11, f11⟩, e12, f12⟩
    have g5 := wf_u64_bounds f5
    have g9 := wf_u64_bounds f9
    have g11 := wf_u64_bounds f11
    have g12 := wf_u64_bounds f12
    simp only at *
    rw [e, e', e'', e3, e4, e7, e8, e1, e2, e5, e6, e9, e10, e11, e12]
    simp only [acF, toAc]
    rw [Int.toNat_of_nonneg g5.1, Int.toNat_of_nonneg g9.1, Int.toNat_of_nonneg g11.1, Int.toNat_of_nonneg g12.1]
    rfl
  · obtain ⟨y, hy, rfl⟩ := List.mem_map.1 hx
    have := hl.all (Q := fun y => y.2.2.2.toNat < 18446744073709551616) (fun cs x ⟨c1, c2, _, _, c3, c4, _, _, c5, c6, _, _, _, f⟩ => by have := wf_u64_bounds f; omega) y hy
    exact this
theorem Rd.act8 {w : World} {b off n c : Nat} {l : List Ac} (h : Rd w 8 (some ⟨b, off, none⟩) n c (l.flatMap acF)) (k : Nat) (hk : k < l.length) :
    w.cell? ⟨b, off + k * 8, none⟩ = some (.int .i64 l[k].kind) ∧ w.cell? ⟨b, off + k * 8 + 1, none⟩ = some (.int .i64 l[k].p) ∧ w.cell? ⟨b, off + k * 8 + 2, none⟩ = some (.int .u64 l[k].b.ce) ∧ w.cell? ⟨b, off + k * 8 + 3, none⟩ = some (.int .i64 l[k].b.cr) ∧ w.cell? ⟨b, off + k * 8 + 4, none⟩ = some (.int .u64 l[k].b.pe) ∧ w.cell? ⟨b, off + k * 8 + 5, none⟩ = some (.int .i64 l[k].b.pr) ∧ w.cell? ⟨b, off + k * 8 + 6, none⟩ = some (.int .u64 l[k].b.ep) ∧ w.cell? ⟨b, off + k * 8 + 7, none⟩ = some (.int .u64 l[k].s) := by
  have hj : ∀ j v, (acF l[k])[j]? = some v → j < 8 → w.cell? ⟨b, off + k * 8 + j, none⟩ = some v := fun j v hv h8 => by
    have h0 := flatMap_get (f := acF) (sz := 8) (fun _ => rfl) l k j h8
    rw [List.getElem?_eq_getElem hk] at h0
    rw [Nat.add_assoc]; exact h.at (h0.trans hv)
  exact ⟨hj 0 _ rfl (by decide), hj 1 _ rfl (by decide), hj 2 _ rfl (by decide), hj 3 _ rfl (by decide), hj 4 _ rfl (by decide), hj 5 _ rfl (by decide), hj 6 _ rfl (by decide), hj 7 _ rfl (by decide)⟩
end Go.Proofs.YtpnmhlcbmbpfdaaDoor
