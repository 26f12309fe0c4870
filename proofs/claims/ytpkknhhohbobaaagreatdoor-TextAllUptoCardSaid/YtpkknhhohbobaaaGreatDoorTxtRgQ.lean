/- text: the reference's field, read: letters a o (written by gen_rg.py) -/
import Derived.Test.YtpkknhhohbobaaaGreatDoorTxtRfQ
namespace Go.Proofs.YtpkknhhohbobaaaGreatDoor
set_option linter.unusedSimpArgs false
set_option linter.unusedVariables false
open Go.RowKit Go.Sort
def nk (u : W8) : Bool := (twoR u 63 4294967295).2
def nmV (t : Nat × Nat) : TNm := ⟨IntKind.i64.wrap (t.1 : Int), t.2 % 4294967296⟩
def nv (u : W8) : TNm := nmV (twoR u 63 4294967295).1
theorem nv_of {u : W8} (h : nk u = true) : nv u = nmOf (twoR u 63 4294967295).1 := by
  obtain ⟨h1, h2⟩ := twoR_le (by decide) (by decide) h
  unfold nv nmV nmOf
  rw [wr63 h1, Nat.mod_eq_of_lt (by omega)]
theorem nv_map {L : List W8} (h : L.all nk = true) : L.map nv = (L.map fun u => (twoR u 63 4294967295).1).map nmOf := by
  rw [List.map_map]
  exact List.map_congr_left fun u hu => nv_of (List.all_eq_true.1 h u hu)
theorem mapO_two (L : List W8) : mapO (fun w => twoN w 63 4294967295) L = if L.all nk = true then some (L.map fun u => (twoR u 63 4294967295).1) else none := by
  induction L with
  | nil => rfl
  | cons u r ih =>
    simp only [mapO, List.all_cons, List.map_cons, ih, twoR_twoN u (show (63 : Nat) ≤ 18446744073709551615 by decide) (show (4294967295 : Nat) ≤ 18446744073709551615 by decide)]
    have h1 : nk u = (twoR u 63 4294967295).2 := rfl
    rw [h1]
    cases (twoR u 63 4294967295).2 <;> cases r.all nk <;> rfl
theorem fieldT_a (x : TEv) (ws : List W8) : fieldT .a x ws = if ws.all nk = true then some ({ x with names := ws.map nv }, []) else none := by
  simp only [fieldT]
  rw [mapO_two]
  cases h : ws.all nk
  · rfl
  · rw [if_pos rfl, if_pos rfl, nv_map h]
    rfl
theorem fieldT_o (x : TEv) (ws : List W8) : fieldT .o x ws = if ok2 ws 63 4294967295 true = true then some ({ x with names := [nv (ws.headD [])] }, ws.tail) else none := by
  simp only [fieldT]
  rw [takeT_ref ws (by decide) (by decide)]
  cases h : ok2 ws 63 4294967295 true
  · rfl
  · rw [if_pos rfl, if_pos rfl, nv_of (u := ws.headD []) (ok2_two h).2.2]
    rfl
section
variable {w W W' : World} {mb b B : Nat} {y y' : TEv} {da na na' : Option Addr} {dn dc nn nc nc' : Nat} {ws ws' : List W8} {ok ok' : Bool} {cs : Array Value}
/-- One name more. -/
theorem FdS.appN {n base : Nat} {t : TNm} (h : FdS w W mb b B y da dn dc na n nc ws ok) (hown : W.ownsRow base 96 2 (.slice na n nc) n (y.names.flatMap nmC)) (g : W.grownBy W' (Value.slice na n nc).ownBlock) (ho : W'.ownsRow base 96 2 (.slice na' (n + 1) nc') (n + 1) (y.names.flatMap nmC ++ nmC t)) (hb1 : mb + 2 ≤ base) (hb2 : base ≤ W.heap.size) (hdl : dn ≠ 0 → ∀ g off, da = some ⟨g, off, none⟩ → g < mb) :
    FdS w (W'.setCell ⟨mb, 17, none⟩ (.slice na' (n + 1) nc')) mb b B { y with names := y.names ++ [t] } da dn dc na' (n + 1) nc' ws ok ∧ (W'.setCell ⟨mb, 17, none⟩ (.slice na' (n + 1) nc')).ownsRow base 96 2 (.slice na' (n + 1) nc') (n + 1) ((y.names ++ [t]).flatMap nmC) := by
  obtain ⟨o1, o2, o3, o4⟩ := h.ord
  have hB : Below base W W' := (Below.refl base W).grown g hb2 (fun k hk => (hown.lt k hk).1)
  have hbk := h.bk.below hB (by omega)
  have hK : Kp mb W' (W'.setCell ⟨mb, 17, none⟩ (.slice na' (n + 1) nc')) := (Kp.refl _ _).setCell ⟨mb, 17, none⟩ rfl _
  have hset : (evC y da dn dc na n nc).setIfInBounds 17 (.slice na' (n + 1) nc') = evC { y with names := y.names ++ [t] } da dn dc na' (n + 1) nc' := by kernel_rfl
  have hkW : Kp b w W' := ⟨hB.os.trans h.k.os, hB.tape.trans h.k.tape, hB.output.trans h.k.output, Nat.le_trans h.k.size hB.size, fun i hi hne => (hB.block i (by omega)).trans (h.k.block i hi hne)⟩
  have hb0 := hbk.set 17 (.slice na' (n + 1) nc')
  rw [hset] at hb0
  have ho2 := own_keep ho (fun g hg hlt => hK.block g hlt (by have := (ho.lt g hg).1; omega))
  rw [show y.names.flatMap nmC ++ nmC t = (y.names ++ [t]).flatMap nmC from by simp] at ho2
  obtain ⟨pa, pc, e1, hrd⟩ := Rd.own ho2
  injection e1 with e1 e2 e3
  subst e1 e3
  have hlt := ho2.lt
  have hdr := hK.rd0 (Rd.keepB h.f.dr hB.size (fun h0 g off e => hB.block g (by have := hdl h0 g off e; omega))) (fun h0 g off e => by have := hdl h0 g off e; omega)
  refine ⟨⟨h.ord, hb0, hK.blk (h.m.below hB (by omega)) (by omega), TkT.off (h.r.lower hB (by omega)) hK (by omega), Kp.near hkW hK (by simp [World.setCell]) (by omega), ⟨hdr, hrd, h.f.db, ?_⟩, h.dx, ?_⟩, ho2⟩
  · intro _ g off e
    subst e
    have := (hlt g rfl).1
    omega
  · intro _ g off e
    subst e
    have := (hlt g rfl).1
    omega
end
section
variable {b B : Nat} {w w' : World} {ws : List W8} {x : TEv} {da na : Option Addr} {dn dc nn nc : Nat}
set_option maxHeartbeats 12800000 in
set_option maxRecDepth 100000 in
theorem fd_o (hF : FdR w B x da dn dc na nn nc) (hB : b ≤ B) (hB2 : B < w.heap.size) (h : TkT w b ws true) (hn : na = none ∧ nn = 0 ∧ nc = 0) :
    Calls Tryz.prog 22 #[.pointer (some ⟨b, 0, none⟩), .int .u8 111, .agg (evC x da dn dc na nn nc)] w (PFe .o x ws b B da dn dc na nn nc w) := by
  obtain ⟨rfl, rfl, rfl⟩ := hn
  have hnn : x.names = [] := by
    have := hF.nr.length_eq
    cases hh : x.names with
    | nil => rfl
    | cons u r => rw [hh] at this; simp [nmC] at this
  have hdl := Lib.hid hF.dr.blt
  have hS0 := FdS.start hF hB hB2 h
  have hs1 : (w.alloc (.cells (evC x da dn dc none 0 0) 34)).heap.size = w.heap.size + 1 := by simp
  obtain ⟨w1, hw1⟩ : ∃ z, z = w.alloc (.cells (evC x da dn dc none 0 0) 34) := ⟨_, rfl⟩
  rw [← hw1] at hS0 hs1
  obtain ⟨w2, hw2⟩ : ∃ z, z = w1.alloc (.cells #[.int .i64 0, .int .i64 0, .int .u64 0, .int .i64 0, .int .u64 0, .int .i64 0, .int .u64 0, .int .i64 0, .int .u32 0, .int .u64 0, .int .i64 0, .slice none 0 0, .string ⟨#[]⟩, .int .u64 0, .int .u64 0, .int .i64 0, .int .u64 0, .slice none 0 0, .string ⟨#[]⟩] 34) := ⟨_, rfl⟩
  rw [← hw2] at hS0
  obtain ⟨mb, hmb⟩ : ∃ z, z = w.heap.size := ⟨_, rfl⟩
  rw [← hmb] at hs1 hS0
  replace hS0 := Lib.hid hS0
  replace hw1 := Lib.hid hw1
  replace hw2 := Lib.hid hw2
  replace hmb := Lib.hid hmb
  replace hs1 := Lib.hid hs1
  clear hF hB hB2 h
  rw [hmb.out.symm] at hdl
  have ho := Lib.hid (fieldT_o x ws)
  go_enter Tryz.func22, Tryz.ntmps22
  go_wp2_with (first | (refine wpList_blk_box rfl (.tmp 2) rfl rfl mb hmb.out.symm ?_; rw [← hw1.out]))
  rw [← hw2.out, hs1.out]
  have hmz : mb + 2 ≤ w2.heap.size := hS0.out.m.lt
  obtain ⟨o1, o2, -, -⟩ := hS0.out.ord
  have hS1 : Hid (FdS w w2 mb b B { x with names := [] } da dn dc none 0 0 ws true) := Lib.hid (by have := hS0.out; rw [show x = { x with names := [] } from by rw [← hnn]] at this; exact this)
  replace o2 := Lib.hid o2
  clear hS0 hw1 hw2 hs1 hnn
  go_wp2_with fail
  go_loopw [12, 13, 14] (fun iv _ _ wr => ∃ (i : Nat) (na : Option Addr) (nc : Nat) (acc : List TNm) (ws' : List W8) (q : Bool), iv = .int .i64 i ∧ Hid (FdS w wr mb b B { x with names := acc } da dn dc na i nc ws' q) ∧ Hid (wr.ownsRow w2.heap.size 96 2 (.slice na i nc) i (acc.flatMap nmC)) ∧ Hid (w2.heap.size ≤ wr.heap.size) ∧ Hid ((i = 0 ∧ acc = [] ∧ ws' = ws ∧ q = true) ∨ (i = 1 ∧ acc = [nv (ws.headD [])] ∧ ws' = ws.tail ∧ q = ok2 ws 63 4294967295 true))) (fun iv _ _ _ => ws.length + 2 - (RowKit.intOf iv).toNat)
  case atStart => exact ⟨0, none, 0, [], ws, true, rfl, hS1, Lib.hid (World.ownsRow_nil _ _ _ _), Lib.hid (Nat.le_refl _), Lib.hid (.inl ⟨rfl, rfl, rfl, rfl⟩)⟩
  case round =>
    obtain ⟨i, na, nc, acc, ws', q, rfl, hS, hown, hz, hor⟩ := hrel
    obtain ⟨w7, rfl⟩ : ∃ z, z = wr := ⟨_, rfl⟩
    clear hS1
    rcases hor.out with ⟨hi, ha, hw, hq⟩ | ⟨hi, ha, hw, hq⟩
    case inl =>
      subst ha hw hq
      obtain ⟨i0, hi0⟩ : ∃ z, z = i := ⟨_, rfl⟩
      have hi1' : (i : Int) < 1 := by omega
      have hi32 : i ≤ 4294967296 := by omega
      have hiz := Lib.hid hi
      clear hi hor hi0
      have HC := Lib.hid (rtwo_any ws' true 63 4294967295 (by decide) (by decide) hS.out.r)
      have hq' : Hid (ok2 ws' 63 4294967295 true = ok2 ws' 63 4294967295 true) := Lib.hid rfl
      generalize ok2 ws' 63 4294967295 true = q at *
      have hv0 : Hid (nv (ws'.headD []) = nmV (twoR (ws'.headD []) 63 4294967295).1) := Lib.hid rfl
      generalize nv (ws'.headD []) = nv0 at *
      generalize ws'.tail = ws1 at *
      generalize twoR (ws'.headD []) 63 4294967295 = tv at *
      obtain ⟨⟨t1, t2⟩, tt⟩ := tv
      obtain ⟨i1, hi1⟩ : ∃ z, z = IntKind.i64.wrap (t1 : Int) := ⟨_, rfl⟩
      have hw1c : IntKind.i64.wrap (t1 : Int) = i1 := hi1.symm
      obtain ⟨s2, hs2⟩ : ∃ z, z = t2 % 4294967296 := ⟨_, rfl⟩
      have hw2c : IntKind.u32.wrap (t2 : Int) = (s2 : Int) := by rw [IntKind.wrap_u32]; omega
      have hnm : Hid (nmV (t1, t2) = ⟨i1, s2⟩) := Lib.hid (by rw [hi1, hs2]; rfl)
      replace hi1 := Lib.hid hi1
      replace hs2 := Lib.hid hs2
      go_wp2_with fail
      refine HC.out.mono ?_
      rintro e w8 ⟨rfl, h8, k8⟩
      have hS8 := hS.out.kk k8 h8
      have ho8 := own_keep hown.out (fun g hg hlt => k8.block g hlt (by have := (hown.out.lt g hg).1; omega))
      have hz8 := Nat.le_trans hz.out k8.size
      have hbA := alloc_below w8 (.cells #[.int .i64 i1, .int .u32 (s2 : Int)] 96)
      have hS10 := Lib.hid (hS8.kk (Kp.ofBelow hbA) (hS8.r.below hbA))
      have ho10 := own_belowB ho8 hbA
      have hr10 : Rd (w8.alloc (.cells #[.int .i64 i1, .int .u32 (s2 : Int)] 96)) 2 (some ⟨w8.heap.size, 0, none⟩) 1 1 (nmC ⟨i1, s2⟩) := rd_newn rfl rfl
      have hz10 := Nat.le_trans hz8 hbA.size
      have c11 : w8.cell? ⟨mb, 17, none⟩ = some (.slice na i nc) := hS8.bk.cell rfl
      clear HC h8 k8 hS hown hz hS8 ho8 hz8 hbA
      go_wp2_with (first | (refine wpList_buildSlice1 rfl 32 96 (.tmp 163) rfl Tryz.nmE (by decide) rfl rfl ?_) | (refine wpList_append_apart Tryz.nmE rfl (.tmp 158) (.tmp 164) rfl ho10 rfl hr10 (by decide) rfl (by intro x hx; rcases hx with _ | ⟨_, _ | ⟨_, hx⟩⟩ <;> first | rfl | cases hx) (by unfold maxLen; omega) (by omega) hz10 ?_; intro v' w11 ho11 hg11 hv11; obtain ⟨pa, pc, rfl, -⟩ := Rd.own ho11; have hap := Lib.hid (FdS.appN hS10.out ho10 hg11 ho11 hmz hz10 hdl.out); have hB11 : Below w2.heap.size _ w11 := (Below.refl w2.heap.size _).grown hg11 hz10 (fun k hk => (ho10.lt k hk).1); have hbk11 := hS10.out.bk.below hB11 (by omega); have c12 : w11.cell? ⟨mb, 17, none⟩ = some (.slice na i nc) := hbk11.cell rfl; have f12 := hbk11.fz 17; have hz12 : Hid (w2.heap.size ≤ (w11.setCell ⟨mb, 17, none⟩ (.slice pa (i + 1) pc)).heap.size) := Lib.hid (by have := hB11.size; simp [World.setCell]; omega); clear ho10 hr10 ho11 hg11 hv11 hB11 hbk11 hS10 hz10))
      go_roundw
      case rel => exact ⟨i + 1, pa, pc, _, ws1, q, by go_num, Lib.hid hap.out.1, Lib.hid hap.out.2, hz12, Lib.hid (.inr ⟨by rw [hiz.out], by rw [hv0.out, hnm.out]; rfl, rfl, rfl⟩)⟩
      case measure => simp [RowKit.intOf]; omega
    case inr =>
      have hi1' : ¬ (i : Int) < 1 := by omega
      have hiz := Lib.hid hi
      clear hi hor
      go_upto_region 38 with (fail)
      obtain ⟨cs, hcs⟩ : ∃ z, z = evC { x with names := acc } da dn dc na i nc := ⟨_, rfl⟩; have hbk7 := hS.out.bk; have hm7 := hS.out.m; have hIE : (Tryz.prog.info? 34).map (·.size) = some (evC { x with names := acc } da dn dc na i nc).size := Tryz.evI; have h1c : cs.all (·.oneCell') = true := (by rw [hcs]; exact evC_one _ _ _ _ _ _ _); have h19 : 0 + cs.size ≤ 19 := (by rw [hcs, evC_size]; decide); have hset : setArr #[.int .i64 0, .int .i64 0, .int .u64 0, .int .i64 0, .int .u64 0, .int .i64 0, .int .u64 0, .int .i64 0, .int .u32 0, .int .u64 0, .int .i64 0, .slice none 0 0, .string ⟨#[]⟩, .int .u64 0, .int .u64 0, .int .i64 0, .int .u64 0, .slice none 0 0, .string ⟨#[]⟩] 0 cs.toList = evC { x with names := acc } da dn dc na i nc := (by rw [hcs]; exact evC_set _ _ _ _ _ _ _); rw [← hcs] at hbk7 hIE; replace hcs := Lib.hid hcs
      go_wp2_with (first
        | (refine wpList_blk_load rfl (.tmp 5) rfl Tryz.underlying34 rfl rfl hbk7 hIE ?_)
        | (refine wpList_blk_put (cs := cs) rfl (.tmp 6) (.tmp 172) rfl rfl rfl hm7 hIE h19 h1c ?_; intro w9 hM9 hK9 hs9))
      rw [hset, ← hcs.out] at hM9
      refine bodyPost_ret (results_cell_row rfl _ _ (mb + 1) 34 _ (0, 0) _ rfl hM9 Tryz.underlying34 rfl hIE) rfl ?_
      exact PFe.yes (f := .o) (q := q) (hS.out.done hK9 hs9) (by rw [ho.out, ← hq, ← hw]) (fun _ => by rw [ha]) hcs.out (fun _ => ⟨rfl, rfl, rfl⟩) (fun _ h => absurd rfl h)
set_option maxHeartbeats 12800000 in
set_option maxRecDepth 100000 in
theorem fd_a (hF : FdR w B x da dn dc na nn nc) (hB : b ≤ B) (hB2 : B < w.heap.size) (h : TkT w b ws true) (hn : na = none ∧ nn = 0 ∧ nc = 0) (hln : ws.length ≤ 4294967296) :
    Calls Tryz.prog 22 #[.pointer (some ⟨b, 0, none⟩), .int .u8 97, .agg (evC x da dn dc na nn nc)] w (PFe .a x ws b B da dn dc na nn nc w) := by
  obtain ⟨rfl, rfl, rfl⟩ := hn
  have hnn : x.names = [] := by
    have := hF.nr.length_eq
    cases hh : x.names with
    | nil => rfl
    | cons u r => rw [hh] at this; simp [nmC] at this
  have hdl := Lib.hid hF.dr.blt
  have hS0 := FdS.start hF hB hB2 h
  have hs1 : (w.alloc (.cells (evC x da dn dc none 0 0) 34)).heap.size = w.heap.size + 1 := by simp
  obtain ⟨w1, hw1⟩ : ∃ z, z = w.alloc (.cells (evC x da dn dc none 0 0) 34) := ⟨_, rfl⟩
  rw [← hw1] at hS0 hs1
  obtain ⟨w2, hw2⟩ : ∃ z, z = w1.alloc (.cells #[.int .i64 0, .int .i64 0, .int .u64 0, .int .i64 0, .int .u64 0, .int .i64 0, .int .u64 0, .int .i64 0, .int .u32 0, .int .u64 0, .int .i64 0, .slice none 0 0, .string ⟨#[]⟩, .int .u64 0, .int .u64 0, .int .i64 0, .int .u64 0, .slice none 0 0, .string ⟨#[]⟩] 34) := ⟨_, rfl⟩
  rw [← hw2] at hS0
  obtain ⟨mb, hmb⟩ : ∃ z, z = w.heap.size := ⟨_, rfl⟩
  rw [← hmb] at hs1 hS0
  replace hS0 := Lib.hid hS0
  replace hw1 := Lib.hid hw1
  replace hw2 := Lib.hid hw2
  replace hmb := Lib.hid hmb
  replace hs1 := Lib.hid hs1
  clear hF hB hB2 h
  rw [hmb.out.symm] at hdl
  have ho := Lib.hid (fieldT_a x ws)
  go_enter Tryz.func22, Tryz.ntmps22
  go_wp2_with (first | (refine wpList_blk_box rfl (.tmp 2) rfl rfl mb hmb.out.symm ?_; rw [← hw1.out]))
  rw [← hw2.out, hs1.out]
  have hmz : mb + 2 ≤ w2.heap.size := hS0.out.m.lt
  obtain ⟨o1, o2, -, -⟩ := hS0.out.ord
  have hS1 : Hid (FdS w w2 mb b B { x with names := [] } da dn dc none 0 0 ws true) := Lib.hid (by have := hS0.out; rw [show x = { x with names := [] } from by rw [← hnn]] at this; exact this)
  replace o2 := Lib.hid o2
  clear hS0 hw1 hw2 hs1 hnn
  go_wp2_with fail
  go_loopw [12, 13, 14] (fun iv _ _ wr => ∃ (i : Nat) (na : Option Addr) (nc : Nat) (acc : List TNm) (ws' : List W8) (q : Bool), iv = .int .i64 i ∧ Hid (FdS w wr mb b B { x with names := acc } da dn dc na i nc ws' q) ∧ Hid (wr.ownsRow w2.heap.size 96 2 (.slice na i nc) i (acc.flatMap nmC)) ∧ Hid (w2.heap.size ≤ wr.heap.size) ∧ i ≤ ws.length ∧ Hid (ws' = ws.drop i) ∧ Hid (acc = (ws.take i).map nv) ∧ Hid (q = (ws.take i).all nk)) (fun iv _ _ _ => ws.length + 2 - (RowKit.intOf iv).toNat)
  case atStart => exact ⟨0, none, 0, [], ws, true, rfl, hS1, Lib.hid (World.ownsRow_nil _ _ _ _), Lib.hid (Nat.le_refl _), Nat.zero_le _, Lib.hid rfl, Lib.hid rfl, Lib.hid rfl⟩
  case round =>
    obtain ⟨i, na, nc, acc, ws', q, rfl, hS, hown, hz, hiw, hwd, hac, hq⟩ := hrel
    obtain ⟨w7, rfl⟩ : ∃ z, z = wr := ⟨_, rfl⟩
    clear hS1
    obtain ⟨d1, f1, pa0, pc0, d0⟩ := hS.out.r.cells
    cases ws' with
    | nil =>
      have hiE : i = ws.length := by
        have := congrArg List.length hwd.out
        rw [List.length_drop, List.length_nil] at this
        omega
      have hlen : ¬ ((([] : List W8).length : Int) > 0) := by decide
      have hiE2 := Lib.hid hiE
      rw [List.length_nil] at d0
      clear hiE
      go_upto_region 38 with (fail)
      obtain ⟨cs, hcs⟩ : ∃ z, z = evC { x with names := acc } da dn dc na i nc := ⟨_, rfl⟩; have hbk7 := hS.out.bk; have hm7 := hS.out.m; have hIE : (Tryz.prog.info? 34).map (·.size) = some (evC { x with names := acc } da dn dc na i nc).size := Tryz.evI; have h1c : cs.all (·.oneCell') = true := (by rw [hcs]; exact evC_one _ _ _ _ _ _ _); have h19 : 0 + cs.size ≤ 19 := (by rw [hcs, evC_size]; decide); have hset : setArr #[.int .i64 0, .int .i64 0, .int .u64 0, .int .i64 0, .int .u64 0, .int .i64 0, .int .u64 0, .int .i64 0, .int .u32 0, .int .u64 0, .int .i64 0, .slice none 0 0, .string ⟨#[]⟩, .int .u64 0, .int .u64 0, .int .i64 0, .int .u64 0, .slice none 0 0, .string ⟨#[]⟩] 0 cs.toList = evC { x with names := acc } da dn dc na i nc := (by rw [hcs]; exact evC_set _ _ _ _ _ _ _); rw [← hcs] at hbk7 hIE; replace hcs := Lib.hid hcs
      go_wp2_with (first
        | (refine wpList_blk_load rfl (.tmp 5) rfl Tryz.underlying34 rfl rfl hbk7 hIE ?_)
        | (refine wpList_blk_put (cs := cs) rfl (.tmp 6) (.tmp 172) rfl rfl rfl hm7 hIE h19 h1c ?_; intro w9 hM9 hK9 hs9))
      rw [hset, ← hcs.out] at hM9
      refine bodyPost_ret (results_cell_row rfl _ _ (mb + 1) 34 _ (0, 0) _ rfl hM9 Tryz.underlying34 rfl hIE) rfl ?_
      exact PFe.yes (f := .a) (q := q) (hS.out.done hK9 hs9) (by rw [ho.out, hq.out, List.take_of_length_le (by have := hiE2.out; omega)]) (fun _ => by rw [hac.out, List.take_of_length_le (by have := hiE2.out; omega)]) hcs.out (fun _ => ⟨rfl, rfl, rfl⟩) (fun h => absurd rfl h)
    | cons u r =>
      rw [List.length_cons] at d0
      have hlen : (0 : Int) < (r.length : Int) + 1 := by omega
      have hin : i < ws.length := by
        have := congrArg List.length hwd.out
        rw [List.length_drop, List.length_cons] at this
        omega
      cases q with
      | false =>
        have hno : Hid (ws.all nk = false) := Lib.hid (by rw [← List.take_append_drop i ws, List.all_append, ← hq.out]; rfl)
        go_upto_region 38 with (fail)
        obtain ⟨cs, hcs⟩ : ∃ z, z = evC { x with names := acc } da dn dc na i nc := ⟨_, rfl⟩; have hbk7 := hS.out.bk; have hm7 := hS.out.m; have hIE : (Tryz.prog.info? 34).map (·.size) = some (evC { x with names := acc } da dn dc na i nc).size := Tryz.evI; have h1c : cs.all (·.oneCell') = true := (by rw [hcs]; exact evC_one _ _ _ _ _ _ _); have h19 : 0 + cs.size ≤ 19 := (by rw [hcs, evC_size]; decide); have hset : setArr #[.int .i64 0, .int .i64 0, .int .u64 0, .int .i64 0, .int .u64 0, .int .i64 0, .int .u64 0, .int .i64 0, .int .u32 0, .int .u64 0, .int .i64 0, .slice none 0 0, .string ⟨#[]⟩, .int .u64 0, .int .u64 0, .int .i64 0, .int .u64 0, .slice none 0 0, .string ⟨#[]⟩] 0 cs.toList = evC { x with names := acc } da dn dc na i nc := (by rw [hcs]; exact evC_set _ _ _ _ _ _ _); rw [← hcs] at hbk7 hIE; replace hcs := Lib.hid hcs
        go_wp2_with (first
          | (refine wpList_blk_load rfl (.tmp 5) rfl Tryz.underlying34 rfl rfl hbk7 hIE ?_)
          | (refine wpList_blk_put (cs := cs) rfl (.tmp 6) (.tmp 172) rfl rfl rfl hm7 hIE h19 h1c ?_; intro w9 hM9 hK9 hs9))
        rw [hset, ← hcs.out] at hM9
        refine bodyPost_ret (results_cell_row rfl _ _ (mb + 1) 34 _ (0, 0) _ rfl hM9 Tryz.underlying34 rfl hIE) rfl ?_
        exact PFe.no (f := .a) (hS.out.done hK9 hs9) (by rw [ho.out, hno.out]; rfl) hcs.out (fun _ => ⟨rfl, rfl, rfl⟩) (fun h => absurd rfl h)
      | true =>
        have hget : Hid (ws.drop i = ws[i] :: ws.drop (i + 1)) := Lib.hid (List.drop_eq_getElem_cons hin)
        have hu : Hid (u = ws[i] ∧ r = ws.drop (i + 1)) := Lib.hid (by have := hwd.out; rw [hget.out] at this; injection this with e1 e2; exact ⟨e1, e2⟩)
        have htk : Hid (ws.take (i + 1) = ws.take i ++ [u]) := Lib.hid (by rw [List.take_add_one, List.getElem?_eq_getElem hin, hu.out.1]; rfl)
        have hac2 : Hid (acc ++ [nv u] = (ws.take (i + 1)).map nv) := Lib.hid (by rw [htk.out, List.map_append, ← hac.out]; rfl)
        have hq3 : Hid (nk u = (ws.take (i + 1)).all nk) := Lib.hid (by rw [htk.out, List.all_append, ← hq.out]; simp)
        have hi32 : i ≤ 4294967296 := by omega
        have hr2 : Hid (r = ws.drop (i + 1)) := Lib.hid hu.out.2
        clear hget hu htk hac hq hwd
        have HC := Lib.hid (rtwo_any (u :: r) true 63 4294967295 (by decide) (by decide) hS.out.r)
        have hq2 : Hid (ok2 (u :: r) 63 4294967295 true = nk u) := Lib.hid rfl
        have hv0 : Hid (nv u = nmV (twoR ((u :: r).headD []) 63 4294967295).1) := Lib.hid rfl
        rw [hq2.out] at HC
        generalize nk u = q at *
        generalize nv u = nv0 at *
        generalize twoR ((u :: r).headD []) 63 4294967295 = tv at *
        obtain ⟨⟨t1, t2⟩, tt⟩ := tv
        obtain ⟨i1, hi1⟩ : ∃ z, z = IntKind.i64.wrap (t1 : Int) := ⟨_, rfl⟩
        have hw1c : IntKind.i64.wrap (t1 : Int) = i1 := hi1.symm
        obtain ⟨s2, hs2⟩ : ∃ z, z = t2 % 4294967296 := ⟨_, rfl⟩
        have hw2c : IntKind.u32.wrap (t2 : Int) = (s2 : Int) := by rw [IntKind.wrap_u32]; omega
        have hnm : Hid (nmV (t1, t2) = ⟨i1, s2⟩) := Lib.hid (by rw [hi1, hs2]; rfl)
        replace hi1 := Lib.hid hi1
        replace hs2 := Lib.hid hs2
        go_wp2_with fail
        refine HC.out.mono ?_
        rintro e w8 ⟨rfl, h8, k8⟩
        have hS8 := hS.out.kk k8 h8
        have ho8 := own_keep hown.out (fun g hg hlt => k8.block g hlt (by have := (hown.out.lt g hg).1; omega))
        have hz8 := Nat.le_trans hz.out k8.size
        have hbA := alloc_below w8 (.cells #[.int .i64 i1, .int .u32 (s2 : Int)] 96)
        have hS10 := Lib.hid (hS8.kk (Kp.ofBelow hbA) (hS8.r.below hbA))
        have ho10 := own_belowB ho8 hbA
        have hr10 : Rd (w8.alloc (.cells #[.int .i64 i1, .int .u32 (s2 : Int)] 96)) 2 (some ⟨w8.heap.size, 0, none⟩) 1 1 (nmC ⟨i1, s2⟩) := rd_newn rfl rfl
        have hz10 := Nat.le_trans hz8 hbA.size
        have c11 : w8.cell? ⟨mb, 17, none⟩ = some (.slice na i nc) := hS8.bk.cell rfl
        clear HC h8 k8 hS hown hz hS8 ho8 hz8 hbA
        go_wp2_with (first | (refine wpList_buildSlice1 rfl 32 96 (.tmp 163) rfl Tryz.nmE (by decide) rfl rfl ?_) | (refine wpList_append_apart Tryz.nmE rfl (.tmp 158) (.tmp 164) rfl ho10 rfl hr10 (by decide) rfl (by intro x hx; rcases hx with _ | ⟨_, _ | ⟨_, hx⟩⟩ <;> first | rfl | cases hx) (by unfold maxLen; omega) (by omega) hz10 ?_; intro v' w11 ho11 hg11 hv11; obtain ⟨pa, pc, rfl, -⟩ := Rd.own ho11; have hap := Lib.hid (FdS.appN hS10.out ho10 hg11 ho11 hmz hz10 hdl.out); have hB11 : Below w2.heap.size _ w11 := (Below.refl w2.heap.size _).grown hg11 hz10 (fun k hk => (ho10.lt k hk).1); have hbk11 := hS10.out.bk.below hB11 (by omega); have c12 : w11.cell? ⟨mb, 17, none⟩ = some (.slice na i nc) := hbk11.cell rfl; have f12 := hbk11.fz 17; have hz12 : Hid (w2.heap.size ≤ (w11.setCell ⟨mb, 17, none⟩ (.slice pa (i + 1) pc)).heap.size) := Lib.hid (by have := hB11.size; simp [World.setCell]; omega); clear ho10 hr10 ho11 hg11 hv11 hB11 hbk11 hS10 hz10))
        go_roundw
        case rel => exact ⟨i + 1, pa, pc, _, r, q, by go_num, Lib.hid hap.out.1, Lib.hid hap.out.2, hz12, by omega, hr2, Lib.hid (by rw [← hac2.out, hv0.out, hnm.out]), hq3⟩
        case measure => simp [RowKit.intOf]; omega
end
end Go.Proofs.YtpkknhhohbobaaaGreatDoor
