/- what the laws of the window carry; the walk of awake -/
import Derived.Test.YthjlilgnnmnaeaaDoorLinkM
import Derived.Test.YthjlilgnnmnaeaaDoorQui
namespace Go.Proofs.YthjlilgnnmnaeaaDoor
open Go.RowKit

/-- What is carried through the world: nothing of old has turned, the table, the window at b. -/
structure LEnv (w0 : World) (b : Nat) (s : WS) (W : World) : Prop where
  bel : Below w0.heap.size w0 W
  old : w0.heap.size ≤ b
  tab : Tab W
  win : WinAt W b s
section
variable {w0 W W' : World} {b : Nat} {s t : WS}
theorem LEnv.below (h : LEnv w0 b s W) (k : Below W.heap.size W W') : LEnv w0 b s W' := ⟨belS h.bel k, h.old, h.tab.below k h.tab.1, h.win.below k h.win.lt⟩
theorem LEnv.kp (h : LEnv w0 b s W) (h0 : 0 < w0.heap.size) (k : Kp b W W') (hw : WinAt W' b t) : LEnv w0 b t W' :=
  ⟨Kp.below h.bel k h.old h.bel.size, h.old, ⟨Nat.lt_of_lt_of_le h.tab.1 k.size, fun j hj => (World.cell?_of_block (w := W) (k.block 0 h.tab.1 (by have := h.old; omega))).trans (h.tab.2 j hj)⟩, hw⟩
end
/-- The states that awake goes through. -/
def aw0 : WS := WS.nw 0 3 2
def aw1 : WS := aw0.nexts 0
def aw2 : WS := aw1.nexts 0
def aw3 : WS := aw2.put 1 1
def aw4 : WS := aw3.nexts 0
theorem aw0_ok : aw0.Ok := WS.nw_ok 0 3 2 (by decide)
theorem aw1_ok : aw1.Ok := WS.nexts_ok aw0_ok 0 (by decide +kernel)
theorem aw2_ok : aw2.Ok := WS.nexts_ok aw1_ok 0 (by decide +kernel)
theorem aw3_ok : aw3.Ok := WS.put_ok aw2_ok 1 1
theorem aw4_ok : aw4.Ok := WS.nexts_ok aw3_ok 0 (by decide +kernel)
theorem aw0_v : aw0.nextV 0 = .tuple #[.int .u32 1, .int .i64 0] := by rw [WS.nextV, if_pos (by decide +kernel)]; rfl
theorem aw1_v : aw1.nextV 0 = .tuple #[.int .u32 2, .int .i64 0] := by rw [WS.nextV, if_pos (by decide +kernel), show aw1.sent = 1 from by decide +kernel]; rfl
theorem aw2_v : aw2.nextV 0 = .tuple #[.int .u32 0, .int .i64 6] := by rw [WS.nextV, if_neg (by decide +kernel)]
theorem aw2_s : aw2.nexts 0 = aw2 := by rw [WS.nexts, if_neg (by decide +kernel)]
theorem aw3_v : aw3.nextV 0 = .tuple #[.int .u32 3, .int .i64 0] := by rw [WS.nextV, if_pos (by decide +kernel), show aw3.sent = 2 from by decide +kernel]; rfl
theorem aw4_f : aw4.low = 1 ∧ aw4.sent = 3 ∧ aw4.lag = 2 ∧ aw4.of 0 = 3 := by decide +kernel

set_option maxHeartbeats 1600000 in
set_option maxRecDepth 100000 in
theorem awake_any (w : World) (hT : Tab w) : Calls Tryd.prog 7 #[] w fun e w' => e = .returned (.bool true) ∧ Below w.heap.size w w' := by
  have hpos := hT.1
  go_enter Tryd.func7, Tryd.ntmps7
  go_wp2_with fail
  refine (of_any 2 2 _ [0, 1] _ (by decide) (Rd.lit (by first | rfl | simp) rfl (by decide))).mono ?_
  rintro e w1 ⟨rfl, rfl⟩
  rw [show withN 0 [0, 1] = 3 from by decide]
  go_wp2_with fail
  refine (new_any 0 3 2 _ (by decide)).mono ?_
  rintro e w2 ⟨b, rfl, hb, hwin, hbel⟩
  have E : LEnv w b aw0 w2 := ⟨((Below.refl _ _).alloc (Nat.le_refl _) _).trans (hbel.mono (by simp)), Nat.le_trans (by simp) hb, hT.below (((Below.refl _ _).alloc (Nat.le_refl _) _).trans (hbel.mono (by simp))) hpos, hwin⟩
  clear hwin hbel
  go_wp2_with fail
  refine (next_any aw0 aw0_ok 0 b _ E.win E.tab (by decide) (by decide)).mono ?_
  rintro e w3 ⟨rfl, hw, hk⟩
  rw [aw0_v]
  replace E : LEnv w b aw1 w3 := E.kp hpos hk hw
  clear hw hk
  go_wp2_with fail
  refine (next_any aw1 aw1_ok 0 b _ E.win E.tab (by decide) (by decide)).mono ?_
  rintro e w4 ⟨rfl, hw, hk⟩
  rw [aw1_v]
  replace E : LEnv w b aw2 w4 := E.kp hpos hk hw
  clear hw hk
  go_wp2_with fail
  refine (next_any aw2 aw2_ok 0 b _ E.win E.tab (by decide) (by decide)).mono ?_
  rintro e w5 ⟨rfl, hw, hk⟩
  rw [aw2_v]
  rw [aw2_s] at hw
  replace E : LEnv w b aw2 w5 := E.kp hpos hk hw
  clear hw hk
  go_wp2_with fail
  refine (got_any aw2 aw2_ok 1 1 b _ E.win).mono ?_
  rintro e w6 ⟨rfl, hw, hk⟩
  replace E : LEnv w b aw3 w6 := E.kp hpos hk hw
  clear hw hk
  go_wp2_with fail
  refine (next_any aw3 aw3_ok 0 b _ E.win E.tab (by decide) (by decide)).mono ?_
  rintro e w7 ⟨rfl, hw, hk⟩
  rw [aw3_v]
  replace E : LEnv w b aw4 w7 := E.kp hpos hk hw
  clear hw hk
  obtain ⟨f1, f2, f3, f4⟩ := aw4_f
  go_wp2_with fail
  refine (low_any aw4 aw4_ok b _ E.win E.tab).mono ?_
  rintro e w8 ⟨rfl, hb1⟩
  replace E := E.below hb1
  rw [f1]
  go_wp2_with fail
  refine (sent_any aw4 b _ E.win).mono ?_
  rintro e w' ⟨rfl, rfl⟩
  rw [f2]
  go_wp2_with fail
  refine (lag_any aw4 aw4_ok b _ E.win E.tab).mono ?_
  rintro e w9 ⟨rfl, hb2⟩
  replace E := E.below hb2
  rw [f3]
  go_wp2_with fail
  refine (of_any 1 1 _ [1] _ (by decide) (Rd.lit (by first | rfl | simp) rfl (by decide))).mono ?_
  rintro e w' ⟨rfl, rfl⟩
  rw [show withN 0 [1] = 2 from by decide]
  replace E := E.below ((Below.refl _ _).alloc (Nat.le_refl _) (.cells #[.int .i64 1] 3))
  go_wp2_with fail
  refine (of_win aw4 aw4_ok 0 b _ E.win).mono ?_
  rintro e w' ⟨rfl, rfl⟩
  rw [f4]
  go_wp2
  go_ret
  exact ⟨rfl, E.bel⟩
end Go.Proofs.YthjlilgnnmnaeaaDoor
