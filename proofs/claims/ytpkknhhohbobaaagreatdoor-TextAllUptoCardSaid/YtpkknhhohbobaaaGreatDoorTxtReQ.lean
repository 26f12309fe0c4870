/- text: the reference's field, read: letters c n s v b (written by gen_re.py) -/
import Derived.Test.YtpkknhhohbobaaaGreatDoorTxtRdQ
import Derived.Deep.CutBlock
namespace Go.Proofs.YtpkknhhohbobaaaGreatDoor
set_option linter.unusedSimpArgs false
set_option linter.unusedVariables false
open Go.RowKit Go.Sort
/-- The rows of an event that is read. -/
structure FdR (w : World) (b : Nat) (y : TEv) (da : Option Addr) (dn dc : Nat) (na : Option Addr) (nn nc : Nat) : Prop where
  dr : Rd w 1 da dn dc (c32 y.m.deps)
  nr : Rd w 2 na nn nc (y.names.flatMap nmC)
  db : dn ≠ 0 → ∀ g off, da = some ⟨g, off, none⟩ → b < g
  nb : nn ≠ 0 → ∀ g off, na = some ⟨g, off, none⟩ → b < g
theorem Rd.blt {w : World} {size n c : Nat} {a : Option Addr} {xs : List Value} (h : Rd w size a n c xs) : n ≠ 0 → ∀ g off, a = some ⟨g, off, none⟩ → g < w.heap.size := by
  intro h0 g off e
  rcases h.2 with hz | ⟨g', o', e', hlt, _⟩
  · exact absurd hz h0
  · rw [e] at e'; simp only [Option.some.injEq, Addr.mk.injEq] at e'
    omega
theorem FdR.kp {w w' : World} {b m : Nat} {y : TEv} {da na : Option Addr} {dn dc nn nc : Nat} (h : FdR w b y da dn dc na nn nc) (k : Kp m w w') (hd : dn ≠ 0 → ∀ g off, da = some ⟨g, off, none⟩ → g ≠ m) (hn : nn ≠ 0 → ∀ g off, na = some ⟨g, off, none⟩ → g ≠ m) : FdR w' b y da dn dc na nn nc := ⟨k.rd0 h.dr hd, k.rd0 h.nr hn, h.db, h.nb⟩
/-- What holds while a field is read. -/
structure FdS (w W : World) (mb b B : Nat) (y : TEv) (da : Option Addr) (dn dc : Nat) (na : Option Addr) (nn nc : Nat) (ws : List W8) (ok : Bool) : Prop where
  ord : b < mb ∧ w.heap.size = mb ∧ b ≤ B ∧ B < mb
  bk : BlkAt W mb 34 (evC y da dn dc na nn nc)
  m : BlkAt W (mb + 1) 34 #[.int .i64 0, .int .i64 0, .int .u64 0, .int .i64 0, .int .u64 0, .int .i64 0, .int .u64 0, .int .i64 0, .int .u32 0, .int .u64 0, .int .i64 0, .slice none 0 0, .string ⟨#[]⟩, .int .u64 0, .int .u64 0, .int .i64 0, .int .u64 0, .slice none 0 0, .string ⟨#[]⟩]
  r : TkT W b ws ok
  k : Kp b w W
  f : FdR W B y da dn dc na nn nc
  dx : dn ≠ 0 → ∀ g off, da = some ⟨g, off, none⟩ → g ≠ mb ∧ g ≠ mb + 1
  nx : nn ≠ 0 → ∀ g off, na = some ⟨g, off, none⟩ → g ≠ mb ∧ g ≠ mb + 1
section
variable {w W W' : World} {mb b B : Nat} {y y' : TEv} {da na : Option Addr} {dn dc nn nc : Nat} {ws ws' : List W8} {ok ok' : Bool} {cs : Array Value}
theorem FdS.start (hF : FdR w B y da dn dc na nn nc) (hB : b ≤ B) (hB2 : B < w.heap.size) (h : TkT w b ws ok) : FdS w ((w.alloc (.cells (evC y da dn dc na nn nc) 34)).alloc (.cells #[.int .i64 0, .int .i64 0, .int .u64 0, .int .i64 0, .int .u64 0, .int .i64 0, .int .u64 0, .int .i64 0, .int .u32 0, .int .u64 0, .int .i64 0, .slice none 0 0, .string ⟨#[]⟩, .int .u64 0, .int .u64 0, .int .i64 0, .int .u64 0, .slice none 0 0, .string ⟨#[]⟩] 34)) w.heap.size b B y da dn dc na nn nc ws ok := by
  have hb1 := alloc_below w (.cells (evC y da dn dc na nn nc) 34)
  have hM := BlkAt.new w 34 (evC y da dn dc na nn nc)
  have hs1 : (w.alloc (.cells (evC y da dn dc na nn nc) 34)).heap.size = w.heap.size + 1 := by simp
  have hlt := h.lt
  have d1 := hF.dr.blt
  have d2 := hF.nr.blt
  generalize w.alloc (.cells (evC y da dn dc na nn nc) 34) = w1 at *
  have hb2 := alloc_below w1 (.cells #[.int .i64 0, .int .i64 0, .int .u64 0, .int .i64 0, .int .u64 0, .int .i64 0, .int .u64 0, .int .i64 0, .int .u32 0, .int .u64 0, .int .i64 0, .slice none 0 0, .string ⟨#[]⟩, .int .u64 0, .int .u64 0, .int .i64 0, .int .u64 0, .slice none 0 0, .string ⟨#[]⟩] 34)
  have hZ := BlkAt.new w1 34 #[.int .i64 0, .int .i64 0, .int .u64 0, .int .i64 0, .int .u64 0, .int .i64 0, .int .u64 0, .int .i64 0, .int .u32 0, .int .u64 0, .int .i64 0, .slice none 0 0, .string ⟨#[]⟩, .int .u64 0, .int .u64 0, .int .i64 0, .int .u64 0, .slice none 0 0, .string ⟨#[]⟩]
  rw [hs1] at hZ
  have hb := hb1.trans (hb2.mono hb1.size)
  exact ⟨⟨hlt, rfl, hB, hB2⟩, hM.below hb2 hM.lt, hZ, h.below hb, Kp.ofBelow hb, ⟨hF.dr.below hb (Nat.le_refl _), hF.nr.below hb (Nat.le_refl _), hF.db, hF.nb⟩, fun h0 g off e => by have := d1 h0 g off e; omega, fun h0 g off e => by have := d2 h0 g off e; omega⟩
theorem FdS.kk (h : FdS w W mb b B y da dn dc na nn nc ws ok) (k : Kp b W W') (r : TkT W' b ws' ok') : FdS w W' mb b B y da dn dc na nn nc ws' ok' := by
  obtain ⟨o1, o2, o3, o4⟩ := h.ord
  exact ⟨h.ord, k.blk h.bk (by omega), k.blk h.m (by omega), r, h.k.trans k, h.f.kp k (fun h0 g off e => by have := h.f.db h0 g off e; omega) (fun h0 g off e => by have := h.f.nb h0 g off e; omega), h.dx, h.nx⟩
theorem FdS.put (h : FdS w W mb b B y da dn dc na nn nc ws ok) (hX : BlkAt W' mb 34 cs) (K : Kp mb W W') (hs : W'.heap.size = W.heap.size) (hc : cs = evC y' da dn dc na nn nc) (h1 : y'.m.deps = y.m.deps) (h2 : y'.names = y.names) : FdS w W' mb b B y' da dn dc na nn nc ws ok := by
  obtain ⟨o1, o2, o3, o4⟩ := h.ord
  subst hc
  have hf := h.f.kp K (fun h0 g off e => (h.dx h0 g off e).1) (fun h0 g off e => (h.nx h0 g off e).1)
  exact ⟨h.ord, hX, K.blk h.m (by omega), TkT.off h.r K o1, Kp.near h.k K hs (by omega), ⟨by rw [h1]; exact hf.dr, by rw [h2]; exact hf.nr, hf.db, hf.nb⟩, h.dx, h.nx⟩
theorem FdS.done (h : FdS w W mb b B y da dn dc na nn nc ws ok) (K : Kp (mb + 1) W W') (hs : W'.heap.size = W.heap.size) : TkT W' b ws ok ∧ FdR W' B y da dn dc na nn nc ∧ Kp b w W' := by
  obtain ⟨o1, o2, o3, o4⟩ := h.ord
  exact ⟨TkT.off h.r K (by omega), h.f.kp K (fun h0 g off e => (h.dx h0 g off e).2) (fun h0 g off e => (h.nx h0 g off e).2), Kp.near h.k K hs (by omega)⟩
end
/-- What the reading of a field answers. -/
def PFe (f : Lt) (x : TEv) (ws : List W8) (b B : Nat) (da : Option Addr) (dn dc : Nat) (na : Option Addr) (nn nc : Nat) (w : World) (e : Ending) (w' : World) : Prop := ∃ (y : TEv) (ea : Option Addr) (en ec : Nat) (fa : Option Addr) (fn fc : Nat) (ws' : List W8) (ok : Bool),
  e = .returned (.agg (evC y ea en ec fa fn fc)) ∧ TkT w' b ws' ok ∧ FdR w' B y ea en ec fa fn fc ∧ Kp b w w' ∧ ok = (fieldT f x ws).isSome ∧ (ok = true → fieldT f x ws = some (y, ws')) ∧ (f ≠ .m → ea = da ∧ en = dn ∧ ec = dc) ∧ (f ≠ .a → f ≠ .o → fa = na ∧ fn = nn ∧ fc = nc)
theorem PFe.same {f : Lt} {x y z : TEv} {ws ws' : List W8} {b B : Nat} {da na : Option Addr} {dn dc nn nc : Nat} {w w' : World} {q : Bool} (hr : TkT w' b ws' q ∧ FdR w' B y da dn dc na nn nc ∧ Kp b w w') (ho : fieldT f x ws = if q = true then some (z, ws') else none) (hz : q = true → y = z) {cs : Array Value} (hcs : cs = evC y da dn dc na nn nc) : PFe f x ws b B da dn dc na nn nc w (.returned (.agg cs)) w' := by
  subst hcs
  refine ⟨y, da, dn, dc, na, nn, nc, ws', q, rfl, hr.1, hr.2.1, hr.2.2, ?_, ?_, fun _ => ⟨rfl, rfl, rfl⟩, fun _ _ => ⟨rfl, rfl, rfl⟩⟩
  · rw [ho]; cases q <;> rfl
  · intro h
    rw [ho, if_pos h, hz h]
theorem wr63 {t : Nat} (h : t ≤ 63) : IntKind.i64.wrap (t : Int) = t := by rw [IntKind.wrap_i64]; omega
theorem fieldT_c (x : TEv) (ws : List W8) : fieldT .c x ws = if ok2 ws 18446744073709551615 63 true = true then some ({ x with conf := cfOf (twoR (ws.headD []) 18446744073709551615 63).1 }, ws.tail) else none := by
  simp only [fieldT]
  rw [takeT_ref ws (by decide) (by decide)]
  cases ok2 ws 18446744073709551615 63 true <;> rfl
theorem fieldT_n (x : TEv) (ws : List W8) : fieldT .n x ws = if ok2 ws 18446744073709551615 63 true = true then some ({ x with new := cfOf (twoR (ws.headD []) 18446744073709551615 63).1 }, ws.tail) else none := by
  simp only [fieldT]
  rw [takeT_ref ws (by decide) (by decide)]
  cases ok2 ws 18446744073709551615 63 true <;> rfl
theorem fieldT_s (x : TEv) (ws : List W8) : fieldT .s x ws = if okR ws 18446744073709551615 true = true then some ({ x with mem := (refV (ws.headD []) 18446744073709551615).1 }, ws.tail) else none := by
  simp only [fieldT]
  rw [takeN_ref ws (Nat.le_refl _)]
  cases okR ws 18446744073709551615 true <;> rfl
theorem fieldT_b (x : TEv) (ws : List W8) : fieldT .b x ws = if (okN ws true && (bytR (ws.headD [])).2) = true then some ({ x with state := (bytR (ws.headD [])).1 }, ws.tail) else none := by
  simp only [fieldT]
  rw [takeB_ref ws]
  cases (okN ws true && (bytR (ws.headD [])).2) <;> rfl
set_option maxRecDepth 20000 in
theorem fieldT_v (x : TEv) (ws : List W8) : fieldT .v x ws = if okR ws.tail.tail 18446744073709551615 (ok2 ws.tail 18446744073709551615 63 (okR ws 18446744073709551615 true)) = true then some ({ x with num := (refV (ws.headD []) 18446744073709551615).1, vconf := cfOf (twoR (ws.tail.headD []) 18446744073709551615 63).1, vmem := (refV (ws.tail.tail.headD []) 18446744073709551615).1 }, ws.tail.tail.tail) else none := by
  simp only [fieldT, takeV]
  rw [takeN_ref ws (Nat.le_refl _), ok2_and, okR_and ws.tail.tail]
  cases okR ws 18446744073709551615 true
  · rfl
  · rw [if_pos rfl, Option.bind_some, takeT_ref ws.tail (by decide) (by decide)]
    cases ok2 ws.tail 18446744073709551615 63 true
    · rfl
    · rw [if_pos rfl, Option.bind_some, takeN_ref ws.tail.tail (Nat.le_refl _)]
      cases okR ws.tail.tail 18446744073709551615 true <;> rfl
theorem ok2_le {ws : List W8} {f s : Nat} (hf : f ≤ 18446744073709551615) (hs : s ≤ 18446744073709551615) {q : Bool} (h : ok2 ws f s q = true) : (twoR (ws.headD []) f s).1.1 ≤ f ∧ (twoR (ws.headD []) f s).1.2 ≤ s := twoR_le hf hs (ok2_two h).2.2
section
variable {b B : Nat} {w w' : World} {ws : List W8} {x : TEv} {da na : Option Addr} {dn dc nn nc : Nat}
set_option maxHeartbeats 6400000 in
set_option maxRecDepth 100000 in
theorem fd_c (hF : FdR w B x da dn dc na nn nc) (hB : b ≤ B) (hB2 : B < w.heap.size) (h : TkT w b ws true) :
    Calls Tryz.prog 22 #[.pointer (some ⟨b, 0, none⟩), .int .u8 99, .agg (evC x da dn dc na nn nc)] w (PFe .c x ws b B da dn dc na nn nc w) := by
  have hS0 := FdS.start hF hB hB2 h
  have hs1 : (w.alloc (.cells (evC x da dn dc na nn nc) 34)).heap.size = w.heap.size + 1 := by simp
  obtain ⟨w1, hw1⟩ : ∃ z, z = w.alloc (.cells (evC x da dn dc na nn nc) 34) := ⟨_, rfl⟩
  rw [← hw1] at hS0 hs1
  obtain ⟨w2, hw2⟩ : ∃ z, z = w1.alloc (.cells #[.int .i64 0, .int .i64 0, .int .u64 0, .int .i64 0, .int .u64 0, .int .i64 0, .int .u64 0, .int .i64 0, .int .u32 0, .int .u64 0, .int .i64 0, .slice none 0 0, .string ⟨#[]⟩, .int .u64 0, .int .u64 0, .int .i64 0, .int .u64 0, .slice none 0 0, .string ⟨#[]⟩] 34) := ⟨_, rfl⟩
  rw [← hw2] at hS0
  obtain ⟨mb, hmb⟩ : ∃ z, z = w.heap.size := ⟨_, rfl⟩
  rw [← hmb] at hs1 hS0
  replace hS0 := Lib.hid hS0
  replace hw1 := Lib.hid hw1
  replace hw2 := Lib.hid hw2
  replace hmb := Lib.hid hmb
  replace hs1 := Lib.hid hs1
  clear hF hB hB2 h
  have HC := Lib.hid (rtconf_any ws true hS0.out.r)
  have ho := Lib.hid (fieldT_c x ws)
  have hle : Hid (ok2 ws 18446744073709551615 63 true = true → _ ≤ 63) := Lib.hid (fun h => (ok2_le (by decide) (by decide) h).2)
  generalize ok2 ws 18446744073709551615 63 true = q at *
  generalize twoR (ws.headD []) 18446744073709551615 63 = t at *
  obtain ⟨⟨t1, t2⟩, tt⟩ := t
  obtain ⟨ti, hti⟩ : ∃ z, z = IntKind.i64.wrap (t2 : Int) := ⟨_, rfl⟩
  simp only at HC
  rw [← hti] at HC
  replace hti := Lib.hid hti
  have hIc : (Tryz.prog.info? 25).map (·.size) = some 2 := by kernel_rfl
  go_enter Tryz.func22, Tryz.ntmps22
  go_wp2_with (first | (refine wpList_blk_box rfl (.tmp 2) rfl rfl mb hmb.out.symm ?_; rw [← hw1.out]))
  rw [← hw2.out, hs1.out]
  refine HC.out.mono ?_
  rintro e w3 ⟨rfl, h3, k3⟩
  have hS3 := Lib.hid (hS0.out.kk k3 h3)
  clear HC h3 k3 hS0
  go_upto_region 38 with (first | (refine wpList_blk_put (cs := #[.int .u64 (t1 : Int), .int .i64 ti]) rfl (.tmp 20) (.tmp 19) rfl rfl rfl hS3.out.bk hIc (by show 2 + 2 ≤ 19; decide) (by simp [Value.oneCell']) ?_; intro w4 hX hK hs; have hS4 := Lib.hid (hS3.out.put (y' := { x with conf := ⟨t1, ti⟩ }) hX hK hs (by kernel_rfl) rfl rfl); clear hX hK hs hS3))
  obtain ⟨cs, hcs⟩ : ∃ z, z = evC { x with conf := ⟨t1, ti⟩ } da dn dc na nn nc := ⟨_, rfl⟩; have hbk7 := hS4.out.bk; have hm7 := hS4.out.m; have hIE : (Tryz.prog.info? 34).map (·.size) = some (evC { x with conf := ⟨t1, ti⟩ } da dn dc na nn nc).size := Tryz.evI; have h1c : cs.all (·.oneCell') = true := (by rw [hcs]; exact evC_one _ _ _ _ _ _ _); have h19 : 0 + cs.size ≤ 19 := (by rw [hcs, evC_size]; decide); have hset : setArr #[.int .i64 0, .int .i64 0, .int .u64 0, .int .i64 0, .int .u64 0, .int .i64 0, .int .u64 0, .int .i64 0, .int .u32 0, .int .u64 0, .int .i64 0, .slice none 0 0, .string ⟨#[]⟩, .int .u64 0, .int .u64 0, .int .i64 0, .int .u64 0, .slice none 0 0, .string ⟨#[]⟩] 0 cs.toList = evC { x with conf := ⟨t1, ti⟩ } da dn dc na nn nc := (by rw [hcs]; exact evC_set _ _ _ _ _ _ _); rw [← hcs] at hbk7 hIE; replace hcs := Lib.hid hcs
  go_wp2_with (first
    | (refine wpList_blk_load rfl (.tmp 5) rfl Tryz.underlying34 rfl rfl hbk7 hIE ?_)
    | (refine wpList_blk_put (cs := cs) rfl (.tmp 6) (.tmp 172) rfl rfl rfl hm7 hIE h19 h1c ?_; intro w9 hM9 hK9 hs9))
  rw [hset, ← hcs.out] at hM9
  refine bodyPost_ret (results_cell_row rfl _ _ (mb + 1) 34 _ (0, 0) _ rfl hM9 Tryz.underlying34 rfl hIE) rfl ?_
  exact PFe.same (f := .c) (hS4.out.done hK9 hs9) ho.out (fun h => by have := hle.out h; rw [hti.out, wr63 this]; rfl) hcs.out
set_option maxHeartbeats 6400000 in
set_option maxRecDepth 100000 in
theorem fd_n (hF : FdR w B x da dn dc na nn nc) (hB : b ≤ B) (hB2 : B < w.heap.size) (h : TkT w b ws true) :
    Calls Tryz.prog 22 #[.pointer (some ⟨b, 0, none⟩), .int .u8 110, .agg (evC x da dn dc na nn nc)] w (PFe .n x ws b B da dn dc na nn nc w) := by
  have hS0 := FdS.start hF hB hB2 h
  have hs1 : (w.alloc (.cells (evC x da dn dc na nn nc) 34)).heap.size = w.heap.size + 1 := by simp
  obtain ⟨w1, hw1⟩ : ∃ z, z = w.alloc (.cells (evC x da dn dc na nn nc) 34) := ⟨_, rfl⟩
  rw [← hw1] at hS0 hs1
  obtain ⟨w2, hw2⟩ : ∃ z, z = w1.alloc (.cells #[.int .i64 0, .int .i64 0, .int .u64 0, .int .i64 0, .int .u64 0, .int .i64 0, .int .u64 0, .int .i64 0, .int .u32 0, .int .u64 0, .int .i64 0, .slice none 0 0, .string ⟨#[]⟩, .int .u64 0, .int .u64 0, .int .i64 0, .int .u64 0, .slice none 0 0, .string ⟨#[]⟩] 34) := ⟨_, rfl⟩
  rw [← hw2] at hS0
  obtain ⟨mb, hmb⟩ : ∃ z, z = w.heap.size := ⟨_, rfl⟩
  rw [← hmb] at hs1 hS0
  replace hS0 := Lib.hid hS0
  replace hw1 := Lib.hid hw1
  replace hw2 := Lib.hid hw2
  replace hmb := Lib.hid hmb
  replace hs1 := Lib.hid hs1
  clear hF hB hB2 h
  have HC := Lib.hid (rtconf_any ws true hS0.out.r)
  have ho := Lib.hid (fieldT_n x ws)
  have hle : Hid (ok2 ws 18446744073709551615 63 true = true → _ ≤ 63) := Lib.hid (fun h => (ok2_le (by decide) (by decide) h).2)
  generalize ok2 ws 18446744073709551615 63 true = q at *
  generalize twoR (ws.headD []) 18446744073709551615 63 = t at *
  obtain ⟨⟨t1, t2⟩, tt⟩ := t
  obtain ⟨ti, hti⟩ : ∃ z, z = IntKind.i64.wrap (t2 : Int) := ⟨_, rfl⟩
  simp only at HC
  rw [← hti] at HC
  replace hti := Lib.hid hti
  have hIc : (Tryz.prog.info? 25).map (·.size) = some 2 := by kernel_rfl
  go_enter Tryz.func22, Tryz.ntmps22
  go_wp2_with (first | (refine wpList_blk_box rfl (.tmp 2) rfl rfl mb hmb.out.symm ?_; rw [← hw1.out]))
  rw [← hw2.out, hs1.out]
  refine HC.out.mono ?_
  rintro e w3 ⟨rfl, h3, k3⟩
  have hS3 := Lib.hid (hS0.out.kk k3 h3)
  clear HC h3 k3 hS0
  go_upto_region 38 with (first | (refine wpList_blk_put (cs := #[.int .u64 (t1 : Int), .int .i64 ti]) rfl (.tmp 25) (.tmp 24) rfl rfl rfl hS3.out.bk hIc (by show 4 + 2 ≤ 19; decide) (by simp [Value.oneCell']) ?_; intro w4 hX hK hs; have hS4 := Lib.hid (hS3.out.put (y' := { x with new := ⟨t1, ti⟩ }) hX hK hs (by kernel_rfl) rfl rfl); clear hX hK hs hS3))
  obtain ⟨cs, hcs⟩ : ∃ z, z = evC { x with new := ⟨t1, ti⟩ } da dn dc na nn nc := ⟨_, rfl⟩; have hbk7 := hS4.out.bk; have hm7 := hS4.out.m; have hIE : (Tryz.prog.info? 34).map (·.size) = some (evC { x with new := ⟨t1, ti⟩ } da dn dc na nn nc).size := Tryz.evI; have h1c : cs.all (·.oneCell') = true := (by rw [hcs]; exact evC_one _ _ _ _ _ _ _); have h19 : 0 + cs.size ≤ 19 := (by rw [hcs, evC_size]; decide); have hset : setArr #[.int .i64 0, .int .i64 0, .int .u64 0, .int .i64 0, .int .u64 0, .int .i64 0, .int .u64 0, .int .i64 0, .int .u32 0, .int .u64 0, .int .i64 0, .slice none 0 0, .string ⟨#[]⟩, .int .u64 0, .int .u64 0, .int .i64 0, .int .u64 0, .slice none 0 0, .string ⟨#[]⟩] 0 cs.toList = evC { x with new := ⟨t1, ti⟩ } da dn dc na nn nc := (by rw [hcs]; exact evC_set _ _ _ _ _ _ _); rw [← hcs] at hbk7 hIE; replace hcs := Lib.hid hcs
  go_wp2_with (first
    | (refine wpList_blk_load rfl (.tmp 5) rfl Tryz.underlying34 rfl rfl hbk7 hIE ?_)
    | (refine wpList_blk_put (cs := cs) rfl (.tmp 6) (.tmp 172) rfl rfl rfl hm7 hIE h19 h1c ?_; intro w9 hM9 hK9 hs9))
  rw [hset, ← hcs.out] at hM9
  refine bodyPost_ret (results_cell_row rfl _ _ (mb + 1) 34 _ (0, 0) _ rfl hM9 Tryz.underlying34 rfl hIE) rfl ?_
  exact PFe.same (f := .n) (hS4.out.done hK9 hs9) ho.out (fun h => by have := hle.out h; rw [hti.out, wr63 this]; rfl) hcs.out
set_option maxHeartbeats 6400000 in
set_option maxRecDepth 100000 in
theorem fd_s (hF : FdR w B x da dn dc na nn nc) (hB : b ≤ B) (hB2 : B < w.heap.size) (h : TkT w b ws true) :
    Calls Tryz.prog 22 #[.pointer (some ⟨b, 0, none⟩), .int .u8 115, .agg (evC x da dn dc na nn nc)] w (PFe .s x ws b B da dn dc na nn nc w) := by
  have hS0 := FdS.start hF hB hB2 h
  have hs1 : (w.alloc (.cells (evC x da dn dc na nn nc) 34)).heap.size = w.heap.size + 1 := by simp
  obtain ⟨w1, hw1⟩ : ∃ z, z = w.alloc (.cells (evC x da dn dc na nn nc) 34) := ⟨_, rfl⟩
  rw [← hw1] at hS0 hs1
  obtain ⟨w2, hw2⟩ : ∃ z, z = w1.alloc (.cells #[.int .i64 0, .int .i64 0, .int .u64 0, .int .i64 0, .int .u64 0, .int .i64 0, .int .u64 0, .int .i64 0, .int .u32 0, .int .u64 0, .int .i64 0, .slice none 0 0, .string ⟨#[]⟩, .int .u64 0, .int .u64 0, .int .i64 0, .int .u64 0, .slice none 0 0, .string ⟨#[]⟩] 34) := ⟨_, rfl⟩
  rw [← hw2] at hS0
  obtain ⟨mb, hmb⟩ : ∃ z, z = w.heap.size := ⟨_, rfl⟩
  rw [← hmb] at hs1 hS0
  replace hS0 := Lib.hid hS0
  replace hw1 := Lib.hid hw1
  replace hw2 := Lib.hid hw2
  replace hmb := Lib.hid hmb
  replace hs1 := Lib.hid hs1
  clear hF hB hB2 h
  have HC := Lib.hid (rnumber_any ws true 18446744073709551615 (Nat.le_refl _) hS0.out.r)
  have ho := Lib.hid (fieldT_s x ws)
  generalize okR ws 18446744073709551615 true = q at *
  generalize (refV (ws.headD []) 18446744073709551615) = t at *
  obtain ⟨v, tt⟩ := t
  go_enter Tryz.func22, Tryz.ntmps22
  go_wp2_with (first | (refine wpList_blk_box rfl (.tmp 2) rfl rfl mb hmb.out.symm ?_; rw [← hw1.out]))
  rw [← hw2.out, hs1.out]
  refine HC.out.mono ?_
  rintro e w3 ⟨rfl, h3, k3⟩
  have hS3 := Lib.hid (hS0.out.kk k3 h3)
  clear HC h3 k3 hS0
  have f6 := hS3.out.bk.fz 6
  have hIc : (3 : Nat) = 3 := rfl
  obtain ⟨w4, hw4⟩ : ∃ z, z = w3.setCell ⟨mb, 6, none⟩ (.int .u64 (v : Int)) := ⟨_, rfl⟩
  have hS4 := Lib.hid (hS3.out.put (y' := { x with mem := v }) (hS3.out.bk.set 6 (.int .u64 (v : Int))) ((Kp.refl _ _).setCell ⟨mb, 6, none⟩ rfl _) (by simp [World.setCell]) (by kernel_rfl) rfl rfl)
  rw [← hw4] at hS4
  have c6 := hS3.out.bk.cell (i := 6) rfl
  replace hw4 := Lib.hid hw4
  clear hS3
  go_upto_region 38 with (fail)
  rw [← hw4.out]
  obtain ⟨cs, hcs⟩ : ∃ z, z = evC { x with mem := v } da dn dc na nn nc := ⟨_, rfl⟩; have hbk7 := hS4.out.bk; have hm7 := hS4.out.m; have hIE : (Tryz.prog.info? 34).map (·.size) = some (evC { x with mem := v } da dn dc na nn nc).size := Tryz.evI; have h1c : cs.all (·.oneCell') = true := (by rw [hcs]; exact evC_one _ _ _ _ _ _ _); have h19 : 0 + cs.size ≤ 19 := (by rw [hcs, evC_size]; decide); have hset : setArr #[.int .i64 0, .int .i64 0, .int .u64 0, .int .i64 0, .int .u64 0, .int .i64 0, .int .u64 0, .int .i64 0, .int .u32 0, .int .u64 0, .int .i64 0, .slice none 0 0, .string ⟨#[]⟩, .int .u64 0, .int .u64 0, .int .i64 0, .int .u64 0, .slice none 0 0, .string ⟨#[]⟩] 0 cs.toList = evC { x with mem := v } da dn dc na nn nc := (by rw [hcs]; exact evC_set _ _ _ _ _ _ _); rw [← hcs] at hbk7 hIE; replace hcs := Lib.hid hcs
  go_wp2_with (first
    | (refine wpList_blk_load rfl (.tmp 5) rfl Tryz.underlying34 rfl rfl hbk7 hIE ?_)
    | (refine wpList_blk_put (cs := cs) rfl (.tmp 6) (.tmp 172) rfl rfl rfl hm7 hIE h19 h1c ?_; intro w9 hM9 hK9 hs9))
  rw [hset, ← hcs.out] at hM9
  refine bodyPost_ret (results_cell_row rfl _ _ (mb + 1) 34 _ (0, 0) _ rfl hM9 Tryz.underlying34 rfl hIE) rfl ?_
  exact PFe.same (f := .s) (hS4.out.done hK9 hs9) ho.out (fun h => rfl) hcs.out
set_option maxHeartbeats 6400000 in
set_option maxRecDepth 100000 in
theorem fd_b (hF : FdR w B x da dn dc na nn nc) (hB : b ≤ B) (hB2 : B < w.heap.size) (h : TkT w b ws true) :
    Calls Tryz.prog 22 #[.pointer (some ⟨b, 0, none⟩), .int .u8 98, .agg (evC x da dn dc na nn nc)] w (PFe .b x ws b B da dn dc na nn nc w) := by
  have hS0 := FdS.start hF hB hB2 h
  have hs1 : (w.alloc (.cells (evC x da dn dc na nn nc) 34)).heap.size = w.heap.size + 1 := by simp
  obtain ⟨w1, hw1⟩ : ∃ z, z = w.alloc (.cells (evC x da dn dc na nn nc) 34) := ⟨_, rfl⟩
  rw [← hw1] at hS0 hs1
  obtain ⟨w2, hw2⟩ : ∃ z, z = w1.alloc (.cells #[.int .i64 0, .int .i64 0, .int .u64 0, .int .i64 0, .int .u64 0, .int .i64 0, .int .u64 0, .int .i64 0, .int .u32 0, .int .u64 0, .int .i64 0, .slice none 0 0, .string ⟨#[]⟩, .int .u64 0, .int .u64 0, .int .i64 0, .int .u64 0, .slice none 0 0, .string ⟨#[]⟩] 34) := ⟨_, rfl⟩
  rw [← hw2] at hS0
  obtain ⟨mb, hmb⟩ : ∃ z, z = w.heap.size := ⟨_, rfl⟩
  rw [← hmb] at hs1 hS0
  replace hS0 := Lib.hid hS0
  replace hw1 := Lib.hid hw1
  replace hw2 := Lib.hid hw2
  replace hmb := Lib.hid hmb
  replace hs1 := Lib.hid hs1
  clear hF hB hB2 h
  have HC := Lib.hid (rtbytes_any ws true hS0.out.r)
  have ho := Lib.hid (fieldT_b x ws)
  generalize (okN ws true && (bytR (ws.headD [])).2) = q at *
  generalize (bytR (ws.headD [])) = t at *
  obtain ⟨v, tt⟩ := t
  go_enter Tryz.func22, Tryz.ntmps22
  go_wp2_with (first | (refine wpList_blk_box rfl (.tmp 2) rfl rfl mb hmb.out.symm ?_; rw [← hw1.out]))
  rw [← hw2.out, hs1.out]
  refine HC.out.mono ?_
  rintro e w3 ⟨rfl, h3, k3⟩
  have hS3 := Lib.hid (hS0.out.kk k3 h3)
  clear HC h3 k3 hS0
  have f6 := hS3.out.bk.fz 18
  have hIc : (3 : Nat) = 3 := rfl
  obtain ⟨w4, hw4⟩ : ∃ z, z = w3.setCell ⟨mb, 18, none⟩ (.string (mkB v)) := ⟨_, rfl⟩
  have hS4 := Lib.hid (hS3.out.put (y' := { x with state := v }) (hS3.out.bk.set 18 (.string (mkB v))) ((Kp.refl _ _).setCell ⟨mb, 18, none⟩ rfl _) (by simp [World.setCell]) (by kernel_rfl) rfl rfl)
  rw [← hw4] at hS4
  have c6 := hS3.out.bk.cell (i := 18) rfl
  replace hw4 := Lib.hid hw4
  clear hS3
  go_upto_region 38 with (fail)
  rw [← hw4.out]
  obtain ⟨cs, hcs⟩ : ∃ z, z = evC { x with state := v } da dn dc na nn nc := ⟨_, rfl⟩; have hbk7 := hS4.out.bk; have hm7 := hS4.out.m; have hIE : (Tryz.prog.info? 34).map (·.size) = some (evC { x with state := v } da dn dc na nn nc).size := Tryz.evI; have h1c : cs.all (·.oneCell') = true := (by rw [hcs]; exact evC_one _ _ _ _ _ _ _); have h19 : 0 + cs.size ≤ 19 := (by rw [hcs, evC_size]; decide); have hset : setArr #[.int .i64 0, .int .i64 0, .int .u64 0, .int .i64 0, .int .u64 0, .int .i64 0, .int .u64 0, .int .i64 0, .int .u32 0, .int .u64 0, .int .i64 0, .slice none 0 0, .string ⟨#[]⟩, .int .u64 0, .int .u64 0, .int .i64 0, .int .u64 0, .slice none 0 0, .string ⟨#[]⟩] 0 cs.toList = evC { x with state := v } da dn dc na nn nc := (by rw [hcs]; exact evC_set _ _ _ _ _ _ _); rw [← hcs] at hbk7 hIE; replace hcs := Lib.hid hcs
  go_wp2_with (first
    | (refine wpList_blk_load rfl (.tmp 5) rfl Tryz.underlying34 rfl rfl hbk7 hIE ?_)
    | (refine wpList_blk_put (cs := cs) rfl (.tmp 6) (.tmp 172) rfl rfl rfl hm7 hIE h19 h1c ?_; intro w9 hM9 hK9 hs9))
  rw [hset, ← hcs.out] at hM9
  refine bodyPost_ret (results_cell_row rfl _ _ (mb + 1) 34 _ (0, 0) _ rfl hM9 Tryz.underlying34 rfl hIE) rfl ?_
  exact PFe.same (f := .b) (hS4.out.done hK9 hs9) ho.out (fun h => rfl) hcs.out
set_option maxHeartbeats 6400000 in
set_option maxRecDepth 100000 in
theorem fd_v (hF : FdR w B x da dn dc na nn nc) (hB : b ≤ B) (hB2 : B < w.heap.size) (h : TkT w b ws true) :
    Calls Tryz.prog 22 #[.pointer (some ⟨b, 0, none⟩), .int .u8 118, .agg (evC x da dn dc na nn nc)] w (PFe .v x ws b B da dn dc na nn nc w) := by
  have hS0 := FdS.start hF hB hB2 h
  have hs1 : (w.alloc (.cells (evC x da dn dc na nn nc) 34)).heap.size = w.heap.size + 1 := by simp
  obtain ⟨w1, hw1⟩ : ∃ z, z = w.alloc (.cells (evC x da dn dc na nn nc) 34) := ⟨_, rfl⟩
  rw [← hw1] at hS0 hs1
  obtain ⟨w2, hw2⟩ : ∃ z, z = w1.alloc (.cells #[.int .i64 0, .int .i64 0, .int .u64 0, .int .i64 0, .int .u64 0, .int .i64 0, .int .u64 0, .int .i64 0, .int .u32 0, .int .u64 0, .int .i64 0, .slice none 0 0, .string ⟨#[]⟩, .int .u64 0, .int .u64 0, .int .i64 0, .int .u64 0, .slice none 0 0, .string ⟨#[]⟩] 34) := ⟨_, rfl⟩
  rw [← hw2] at hS0
  obtain ⟨mb, hmb⟩ : ∃ z, z = w.heap.size := ⟨_, rfl⟩
  rw [← hmb] at hs1 hS0
  replace hS0 := Lib.hid hS0
  replace hw1 := Lib.hid hw1
  replace hw2 := Lib.hid hw2
  replace hmb := Lib.hid hmb
  replace hs1 := Lib.hid hs1
  clear hF hB hB2 h
  have HC := Lib.hid (rnumber_any ws true 18446744073709551615 (Nat.le_refl _) hS0.out.r)
  have ho := Lib.hid (fieldT_v x ws)
  generalize okR ws 18446744073709551615 true = q1 at *
  generalize refV (ws.headD []) 18446744073709551615 = v1 at *
  generalize ws.tail = ws1 at *
  obtain ⟨n1, r1⟩ := v1
  have hIc : (Tryz.prog.info? 25).map (·.size) = some 2 := by kernel_rfl
  go_enter Tryz.func22, Tryz.ntmps22
  go_wp2_with (first | (refine wpList_blk_box rfl (.tmp 2) rfl rfl mb hmb.out.symm ?_; rw [← hw1.out]))
  rw [← hw2.out, hs1.out]
  refine HC.out.mono ?_
  rintro e w3 ⟨rfl, h3, k3⟩
  have hS3 := Lib.hid (hS0.out.kk k3 h3)
  clear HC h3 k3 hS0
  have f13 := hS3.out.bk.fz 13
  have c13 := hS3.out.bk.cell (i := 13) rfl
  obtain ⟨w4, hw4⟩ : ∃ z, z = w3.setCell ⟨mb, 13, none⟩ (.int .u64 (n1 : Int)) := ⟨_, rfl⟩
  have hS4 := Lib.hid (hS3.out.put (y' := { x with num := n1 }) (hS3.out.bk.set 13 (.int .u64 (n1 : Int))) ((Kp.refl _ _).setCell ⟨mb, 13, none⟩ rfl _) (by simp [World.setCell]) (by kernel_rfl) rfl rfl)
  rw [← hw4] at hS4
  replace hw4 := Lib.hid hw4
  clear hS3
  have HC := Lib.hid (rtconf_any ws1 q1 hS4.out.r)
  have hle : Hid (ok2 ws1 18446744073709551615 63 q1 = true → _ ≤ 63) := Lib.hid (fun h => (ok2_le (by decide) (by decide) h).2)
  generalize ok2 ws1 18446744073709551615 63 q1 = q2 at *
  generalize twoR (ws1.headD []) 18446744073709551615 63 = t at *
  generalize ws1.tail = ws2 at *
  obtain ⟨⟨t1, t2⟩, tt⟩ := t
  obtain ⟨ti, hti⟩ : ∃ z, z = IntKind.i64.wrap (t2 : Int) := ⟨_, rfl⟩
  simp only at HC
  rw [← hti] at HC
  replace hti := Lib.hid hti
  go_wp2_with fail
  rw [← hw4.out]
  clear f13 c13 hw4
  refine HC.out.mono ?_
  rintro e w5 ⟨rfl, h5, k5⟩
  have hS5 := Lib.hid (hS4.out.kk k5 h5)
  clear HC h5 k5 hS4
  go_wp2_with (first | (refine wpList_blk_put (cs := #[.int .u64 (t1 : Int), .int .i64 ti]) rfl (.tmp 118) (.tmp 116) rfl rfl rfl hS5.out.bk hIc (by show 14 + 2 ≤ 19; decide) (by simp [Value.oneCell']) ?_; intro w6 hX hK hs; have hS6 := Lib.hid (hS5.out.put (y' := { x with num := n1, vconf := ⟨t1, ti⟩ }) hX hK hs (by kernel_rfl) rfl rfl); clear hX hK hs hS5))
  have HC := Lib.hid (rnumber_any ws2 q2 18446744073709551615 (Nat.le_refl _) hS6.out.r)
  have hq := Lib.hid (show okR ws2 18446744073709551615 q2 = true → q2 = true from fun h => (okR_ref h).1)
  generalize okR ws2 18446744073709551615 q2 = q3 at *
  generalize refV (ws2.headD []) 18446744073709551615 = v3 at *
  generalize ws2.tail = ws3 at *
  obtain ⟨n3, r3⟩ := v3
  refine HC.out.mono ?_
  rintro e w7 ⟨rfl, h7, k7⟩
  have hS7 := Lib.hid (hS6.out.kk k7 h7)
  clear HC h7 k7 hS6
  have f16 := hS7.out.bk.fz 16
  have c16 := hS7.out.bk.cell (i := 16) rfl
  obtain ⟨w8, hw8⟩ : ∃ z, z = w7.setCell ⟨mb, 16, none⟩ (.int .u64 (n3 : Int)) := ⟨_, rfl⟩
  have hS8 := Lib.hid (hS7.out.put (y' := { x with num := n1, vconf := ⟨t1, ti⟩, vmem := n3 }) (hS7.out.bk.set 16 (.int .u64 (n3 : Int))) ((Kp.refl _ _).setCell ⟨mb, 16, none⟩ rfl _) (by simp [World.setCell]) (by kernel_rfl) rfl rfl)
  rw [← hw8] at hS8
  replace hw8 := Lib.hid hw8
  clear hS7
  go_upto_region 38 with (fail)
  rw [← hw8.out]
  clear f16 c16 hw8
  obtain ⟨cs, hcs⟩ : ∃ z, z = evC { x with num := n1, vconf := ⟨t1, ti⟩, vmem := n3 } da dn dc na nn nc := ⟨_, rfl⟩; have hbk7 := hS8.out.bk; have hm7 := hS8.out.m; have hIE : (Tryz.prog.info? 34).map (·.size) = some (evC { x with num := n1, vconf := ⟨t1, ti⟩, vmem := n3 } da dn dc na nn nc).size := Tryz.evI; have h1c : cs.all (·.oneCell') = true := (by rw [hcs]; exact evC_one _ _ _ _ _ _ _); have h19 : 0 + cs.size ≤ 19 := (by rw [hcs, evC_size]; decide); have hset : setArr #[.int .i64 0, .int .i64 0, .int .u64 0, .int .i64 0, .int .u64 0, .int .i64 0, .int .u64 0, .int .i64 0, .int .u32 0, .int .u64 0, .int .i64 0, .slice none 0 0, .string ⟨#[]⟩, .int .u64 0, .int .u64 0, .int .i64 0, .int .u64 0, .slice none 0 0, .string ⟨#[]⟩] 0 cs.toList = evC { x with num := n1, vconf := ⟨t1, ti⟩, vmem := n3 } da dn dc na nn nc := (by rw [hcs]; exact evC_set _ _ _ _ _ _ _); rw [← hcs] at hbk7 hIE; replace hcs := Lib.hid hcs
  go_wp2_with (first
    | (refine wpList_blk_load rfl (.tmp 5) rfl Tryz.underlying34 rfl rfl hbk7 hIE ?_)
    | (refine wpList_blk_put (cs := cs) rfl (.tmp 6) (.tmp 172) rfl rfl rfl hm7 hIE h19 h1c ?_; intro w9 hM9 hK9 hs9))
  rw [hset, ← hcs.out] at hM9
  refine bodyPost_ret (results_cell_row rfl _ _ (mb + 1) 34 _ (0, 0) _ rfl hM9 Tryz.underlying34 rfl hIE) rfl ?_
  exact PFe.same (f := .v) (hS8.out.done hK9 hs9) ho.out (fun h => by have := hle.out (hq.out h); rw [hti.out, wr63 this]; rfl) hcs.out
end
end Go.Proofs.YtpkknhhohbobaaaGreatDoor
