/- text: a line's event, or none -/
import Derived.Test.YtpkknhhohbobaaaGreatDoorTxtXQ
import Derived.Test.YtpkknhhohbobaaaGreatDoorG3
namespace Go.Proofs.YtpkknhhohbobaaaGreatDoor
set_option linter.unusedSimpArgs false
set_option linter.unusedVariables false
open Go.RowKit Go.Sort
theorem field_ne {f : Lt} {x : TEv} : ∀ u ∈ fieldW f x, u ≠ [] := by
  have hj : ∀ (a b : W8), a ++ 46 :: b ≠ [] := fun a b e => by cases a <;> cases e
  intro u hu
  cases f with
  | c => obtain rfl := List.mem_singleton.1 hu; exact hj _ _
  | n => obtain rfl := List.mem_singleton.1 hu; exact hj _ _
  | s => obtain rfl := List.mem_singleton.1 hu; exact num_ne _
  | m =>
    simp only [fieldW, msgW, List.mem_cons, List.not_mem_nil, or_false] at hu
    rcases hu with rfl | rfl | rfl | rfl | rfl | rfl
    · exact num_ne _
    · exact num_ne _
    · exact num_ne _
    · exact num_ne _
    · exact fun e => by cases e
    · exact fun e => by cases e
  | v =>
    simp only [fieldW, List.mem_cons, List.not_mem_nil, or_false] at hu
    rcases hu with rfl | rfl | rfl
    · exact num_ne _
    · exact hj _ _
    · exact num_ne _
  | a => obtain ⟨n, _, rfl⟩ := List.mem_map.1 hu; exact hj _ _
  | o => obtain ⟨n, _, rfl⟩ := List.mem_map.1 hu; exact hj _ _
  | b => obtain rfl := List.mem_singleton.1 hu; exact fun e => by cases e

theorem ev_ne {y : TEv} (h : evE y = 0) : ∀ u ∈ evW y, u ≠ [] := by
  obtain ⟨k1, k2, _⟩ := evE_zero h
  intro u hu
  unfold evW at hu
  rcases List.mem_cons.1 hu with rfl | hu
  · exact num_ne _
  · rcases List.mem_cons.1 hu with rfl | hu
    · exact kindW_ne ⟨y.kind.toNat, by omega⟩ (show 1 ≤ y.kind.toNat by omega)
    · obtain ⟨f, _, hu⟩ := List.mem_flatMap.1 hu
      exact field_ne u hu
theorem parse_empty {ws : List W8} (h : [] ∈ ws) : parseW ws = none := by
  cases e : parseW ws with
  | none => rfl
  | some y =>
    obtain ⟨_, h0, h1, _⟩ := print_parse e
    rw [← h1] at h
    exact absurd rfl (ev_ne h0 _ h)
/-- What Parse answers. -/
def parX (s : W8) : TEv := (parseL s).getD TEv.zero
def parE (s : W8) : Int := if (parseL s).isSome then 0 else 4
/-- An event's rows, in new memory. -/
structure EvF (w : World) (B : Nat) (y : TEv) (da : Option Addr) (dc : Nat) (na : Option Addr) (nc : Nat) : Prop where
  dr : Rd w 1 da y.m.deps.length dc (c32 y.m.deps)
  nr : Rd w 2 na y.names.length nc (y.names.flatMap nmC)
  db : y.m.deps.length ≠ 0 → ∀ g off, da = some ⟨g, off, none⟩ → B ≤ g
  nb : y.names.length ≠ 0 → ∀ g off, na = some ⟨g, off, none⟩ → B ≤ g
theorem EvF.zero (w : World) (B : Nat) : EvF w B TEv.zero none 0 none 0 :=
  ⟨⟨⟨rfl, Nat.le_refl 0, Nat.zero_le _, (fun _ => ⟨rfl, rfl⟩)⟩, .inl rfl⟩, ⟨⟨rfl, Nat.le_refl 0, Nat.zero_le _, (fun _ => ⟨rfl, rfl⟩)⟩, .inl rfl⟩, fun h => absurd rfl h, fun h => absurd rfl h⟩
theorem EvF.below {w w' : World} {B : Nat} {y : TEv} {da na : Option Addr} {dc nc : Nat} (h : EvF w B y da dc na nc) (k : Below w.heap.size w w') : EvF w' B y da dc na nc := ⟨h.dr.below k (Nat.le_refl _), h.nr.below k (Nat.le_refl _), h.db, h.nb⟩
theorem EvF.mono {w : World} {B B' : Nat} {y : TEv} {da na : Option Addr} {dc nc : Nat} (h : EvF w B y da dc na nc) (hb : B' ≤ B) : EvF w B' y da dc na nc :=
  ⟨h.dr, h.nr, fun h0 g off e => Nat.le_trans hb (h.db h0 g off e), fun h0 g off e => Nat.le_trans hb (h.nb h0 g off e)⟩
/-- .. and a store into a block below leaves them. -/
theorem EvF.kp {w w' : World} {B m : Nat} {y : TEv} {da na : Option Addr} {dc nc : Nat} (h : EvF w B y da dc na nc) (k : Kp m w w') (hm : m < B) : EvF w' B y da dc na nc :=
  ⟨Rd.keepB h.dr k.size (fun h0 g off e => by
    rcases h.dr.2 with h1 | ⟨g', o', e', hlt, _⟩
    · exact absurd h1 h0
    · rw [e] at e'; simp only [Option.some.injEq, Addr.mk.injEq] at e'
      exact k.block g (by omega) (by have := h.db h0 g off e; omega)), Rd.keepB h.nr k.size (fun h0 g off e => by
    rcases h.nr.2 with h1 | ⟨g', o', e', hlt, _⟩
    · exact absurd h1 h0
    · rw [e] at e'; simp only [Option.some.injEq, Addr.mk.injEq] at e'
      exact k.block g (by omega) (by have := h.nb h0 g off e; omega)), h.db, h.nb⟩
def PTry (s : W8) (B : Nat) (e : Ending) (w' : World) : Prop := ∃ da dc na nc, e = .returned (.tuple #[.agg (evC (parX s) da (parX s).m.deps.length dc na (parX s).names.length nc), .int .i64 (parE s)]) ∧ EvF w' B (parX s) da dc na nc
theorem PTry.no {s : W8} {B : Nat} {e : Ending} {w' : World} (h : parseL s = none) (he : e = .returned (.tuple #[.agg (evC TEv.zero none 0 0 none 0 0), .int .i64 4])) : PTry s B e w' := by
  refine ⟨none, 0, none, 0, ?_, ?_⟩
  · unfold parX parE
    rw [h]
    exact he
  · unfold parX
    rw [h]
    exact EvF.zero _ _
theorem PTry.yes {s : W8} {B : Nat} {e : Ending} {w' : World} {y : TEv} {da na : Option Addr} {dc nc : Nat} (h : parseL s = some y) (he : e = .returned (.tuple #[.agg (evC y da y.m.deps.length dc na y.names.length nc), .int .i64 0])) (hn : EvF w' B y da dc na nc) : PTry s B e w' := by
  refine ⟨da, dc, na, nc, ?_, ?_⟩
  · unfold parX parE
    rw [h]
    exact he
  · unfold parX
    rw [h]
    exact hn
section
variable {P : Program}
theorem results_cell2 {fn : Func} {p q : Tmp} {ty ty2 : TypeId} (h : fn.results = #[.cell p ty, .cell q ty2]) (tmps : Array Value) (w : World) (g : Nat) (t : TypeId) (cs : Array Value) (fr : Nat × Nat) (d : TypeDesc)
    (hp : tmps.getD p undef = .pointer (some ⟨g, 0, none⟩)) (hg : w.heap[g]? = some (.cells cs t fr))
    (hu : P.underlying ty = some d) (hd : (match d with | .struct _ | .array _ _ => true | _ => false) = true) (hi : (P.info? ty).map (·.size) = some cs.size)
    (a2 : Addr) (hq : tmps.getD q undef = .pointer (some a2)) (v2 : Value) (hv : (loadVar ty2 a2).run P w = .ok v2 w) :
    (results fn tmps).run P w = .ok (.tuple #[.agg cs, v2]) w := by
  have hp' : tmps[p]?.getD undef = .pointer (some ⟨g, 0, none⟩) := by simpa using hp
  have hq' : tmps[q]?.getD undef = .pointer (some a2) := by simpa using hq
  simp [results, h, hp', hq', asAddr, run_loadVar_row w g t ty cs fr d hg hu hd hi, hv]
theorem results_cellslot {fn : Func} {p q : Tmp} {ty : TypeId} (h : fn.results = #[.cell p ty, .tmp q]) (tmps : Array Value) (w : World) (g : Nat) (t : TypeId) (cs : Array Value) (fr : Nat × Nat) (d : TypeDesc)
    (hp : tmps.getD p undef = .pointer (some ⟨g, 0, none⟩)) (hg : w.heap[g]? = some (.cells cs t fr))
    (hu : P.underlying ty = some d) (hd : (match d with | .struct _ | .array _ _ => true | _ => false) = true) (hi : (P.info? ty).map (·.size) = some cs.size) :
    (results fn tmps).run P w = .ok (.tuple #[.agg cs, tmps.getD q undef]) w := by
  have hp' : tmps[p]?.getD undef = .pointer (some ⟨g, 0, none⟩) := by simpa using hp
  simp [results, h, hp', asAddr, run_loadVar_row w g t ty cs fr d hg hu hd hi]
end
theorem Tryz.errL (w : World) (a : Addr) (v : Value) (h : w.cell? a = some v) : (loadVar 35 a).run Tryz.prog w = .ok v w := by
  simp [go_sem, h, Tryz.underlying35]
set_option maxHeartbeats 3200000 in
set_option maxRecDepth 100000 in
theorem tryp_any (s : W8) (hs : s.length < 4294967281) (w : World) (hT : TL w) :
    Calls Tryz.prog 16 #[.string (mkB s)] w fun e w' => PTry s w.heap.size e w' ∧ Below w.heap.size w w' := by
  have hbA := alloc_below w (.cells #[.int .i64 0, .int .i64 0, .int .u64 0, .int .i64 0, .int .u64 0, .int .i64 0, .int .u64 0, .int .i64 0, .int .u32 0, .int .u64 0, .int .i64 0, .slice none 0 0, .string ⟨#[]⟩, .int .u64 0, .int .u64 0, .int .i64 0, .int .u64 0, .slice none 0 0, .string ⟨#[]⟩] 34)
  obtain ⟨wA, hwA⟩ : ∃ z, z = w.alloc (.cells #[.int .i64 0, .int .i64 0, .int .u64 0, .int .i64 0, .int .u64 0, .int .i64 0, .int .u64 0, .int .i64 0, .int .u32 0, .int .u64 0, .int .i64 0, .slice none 0 0, .string ⟨#[]⟩, .int .u64 0, .int .u64 0, .int .i64 0, .int .u64 0, .slice none 0 0, .string ⟨#[]⟩] 34) := ⟨_, rfl⟩
  have hXA : BlkAt wA w.heap.size 34 #[.int .i64 0, .int .i64 0, .int .u64 0, .int .i64 0, .int .u64 0, .int .i64 0, .int .u64 0, .int .i64 0, .int .u32 0, .int .u64 0, .int .i64 0, .slice none 0 0, .string ⟨#[]⟩, .int .u64 0, .int .u64 0, .int .i64 0, .int .u64 0, .slice none 0 0, .string ⟨#[]⟩] := by rw [hwA]; exact BlkAt.new _ _ _
  have hsA : wA.heap.size = w.heap.size + 1 := by rw [hwA]; simp
  rw [← hwA] at hbA
  have hbB := alloc_below wA (.cells #[.int .i64 0] 35)
  obtain ⟨wB, hwB⟩ : ∃ z, z = wA.alloc (.cells #[.int .i64 0] 35) := ⟨_, rfl⟩
  have hEB : BlkAt wB (w.heap.size + 1) 35 #[.int .i64 0] := by rw [hwB, ← hsA]; exact BlkAt.new _ _ _
  have hsB : wB.heap.size = w.heap.size + 2 := by rw [hwB]; simp [hsA]
  rw [← hwB] at hbB
  have hXB := hXA.below hbB (by omega)
  have hB1 := hbA.trans (hbB.mono (by omega))
  have HS := Lib.hid (split_any 32 s hs wB (hT.on hB1))
  obtain ⟨mb, hmb⟩ : ∃ z, z = w.heap.size := ⟨_, rfl⟩
  obtain ⟨eb, heb⟩ : ∃ z, z = wA.heap.size := ⟨_, rfl⟩
  have hbig := hT.big
  replace hwA := Lib.hid hwA
  replace hwB := Lib.hid hwB
  replace hmb := Lib.hid hmb
  replace heb := Lib.hid heb
  replace hXB := Lib.hid hXB
  replace hEB := Lib.hid hEB
  replace hB1 := Lib.hid hB1
  replace hT := Lib.hid hT
  clear hbA hbB hXA
  go_enter_defers Tryz.func16, Tryz.ntmps16
  go_upto_region 2 with (fail)
  rw [← hwA.out, ← hwB.out, ← hmb.out]
  rw [← hmb.out] at hXB hEB
  go_wp2_with fail
  refine HS.out.mono ?_
  rintro e wC ⟨rfl, hwC⟩
  have hln := pcs_le 32 s
  obtain ⟨n, hn⟩ : ∃ z, z = (pcs 32 s).length := ⟨_, rfl⟩
  have hbC := alloc_below wB (.cells ((pcs 32 s).map sv).toArray 9)
  have hrC : Rd (wB.alloc (.cells ((pcs 32 s).map sv).toArray 9)) 1 (some ⟨wB.heap.size, 0, none⟩) n n ((pcs 32 s).map sv) := Rd.litn rfl (by rw [List.length_map]; exact hn) (by unfold maxLen; omega)
  rw [← hwC] at hbC hrC
  rw [← hn]
  have hsC : wC.heap.size = wB.heap.size + 1 := by rw [hwC]; simp
  have hbD := alloc_below wC (.cells #[.slice (some ⟨wB.heap.size, 0, none⟩) n n] 86)
  have hRD := BlkAt.new wC 86 #[.slice (some ⟨wB.heap.size, 0, none⟩) n n]
  obtain ⟨wD, hwD⟩ : ∃ z, z = wC.alloc (.cells #[.slice (some ⟨wB.heap.size, 0, none⟩) n n] 86) := ⟨_, rfl⟩
  rw [← hwD] at hbD hRD
  obtain ⟨q, hq⟩ : ∃ z, z = wB.heap.size := ⟨_, rfl⟩
  obtain ⟨rb, hrb⟩ : ∃ z, z = wC.heap.size := ⟨_, rfl⟩
  rw [← hq] at hrC hRD ⊢
  rw [← hrb] at hRD
  have hrD := Lib.hid (hrC.below hbD (Nat.le_refl _))
  have hXD := Lib.hid ((hXB.out.below hbC hXB.out.lt).below hbD (by have := hXB.out.lt; omega))
  have hED := Lib.hid ((hEB.out.below hbC hEB.out.lt).below hbD (by have := hEB.out.lt; omega))
  have hBD := Lib.hid (belS (belS hB1.out hbC) hbD)
  replace hn := Lib.hid hn
  replace hwC := Lib.hid hwC
  have c14 : wD.cell? ⟨rb, 0, none⟩ = some (.slice (some ⟨q, 0, none⟩) n n) := hRD.cell rfl
  have hlt : Hid (q < rb ∧ 8 ≤ rb ∧ mb + 1 < q) := Lib.hid ⟨by omega, by omega, by have := hmb.out; omega⟩
  replace hRD := Lib.hid hRD
  have hwD2 := Lib.hid hwD
  rw [← hq] at hwD
  replace hwD := Lib.hid hwD
  replace hq := Lib.hid hq
  replace hrb := Lib.hid hrb
  clear hrC hbC hbD hsC hsA hsB HS hXB hEB hB1 hwD2
  go_upto_region 3 with (fail)
  rw [← hrb.out, ← hwD.out]
  go_wp2
  go_loopw [6, 16] (fun _ iv wr => ∃ (i : Nat), i ≤ n ∧ iv = .int .i64 i ∧ wr = wD ∧ Hid (∀ (j : Nat) (u : W8), j < i → (pcs 32 s)[j]? = some u → u ≠ [])) (fun _ iv _ => n - (RowKit.intOf iv).toNat)
  case atStart => exact ⟨0, Nat.zero_le _, rfl, rfl, Lib.hid (fun j u h => absurd h (Nat.not_lt_zero _))⟩
  case round =>
    obtain ⟨i, hi, rfl, rfl, hne⟩ := hrel
    by_cases hin : i < n
    case pos =>
      have hiI : (i : Int) < n := by omega
      have hkL : i < (pcs 32 s).length := by have := hn.out; omega
      have c18 : wr.cell? ⟨q, i, none⟩ = some (.string (mkB (pcs 32 s)[i])) := by
        have := hrD.out.at (j := i) (u := sv (pcs 32 s)[i]) (by rw [List.getElem?_map, List.getElem?_eq_getElem hkL]; rfl)
        simpa [sv] using this
      have hgt := Lib.hid (List.getElem?_eq_getElem hkL)
      generalize (pcs 32 s)[i] = u at *
      by_cases hu : u = []
      · have hqq : (mkB u).toList.isEmpty = true := by rw [hu, mkB_toList]; rfl
        have hpn : Hid (parseL s = none) := Lib.hid (parse_empty (List.mem_of_getElem? (hu ▸ hgt.out)))
        have hX := hXD.out
        have hBx := hBD
        have c0 : wr.cell? ⟨mb + 1, 0, none⟩ = some (.int .i64 0) := hED.out.cell rfl
        have f0 := hED.out.fz 0
        clear hu
        go_wp2_with fail
        refine (bad_t (by first | rfl | (simp; done) | (simp; omega)) 4 _).mono ?_
        rintro e w6 ⟨rfl, rfl⟩
        unfold pan
        refine leaves_cons (f := 31) (args := #[.pointer (some ⟨mb + 1, 0, none⟩)]) (by simp) (by simp [go_sem]) ?_
        refine (caught_err (mb + 1) _ 4 [] _ c0 f0).mono ?_
        rintro e u' w'' ⟨rfl, rfl, rfl⟩
        simp only [Leaves, settle, List.dropWhile]
        exact ⟨_, results_cell2 rfl _ _ mb 34 (evC TEv.zero none 0 0 none 0 0) (0, 0) _ rfl (BlkAt.other hX (by show mb ≠ mb + 1; omega) _) Tryz.underlying34 rfl Tryz.evI ⟨mb + 1, 0, none⟩ rfl (.int .i64 4) (Tryz.errL _ _ _ (World.cell?_setCell_same _ _ _ c0)), PTry.no hpn.out rfl, Kp.below hBx.out ((Kp.refl (mb + 1) _).setCell ⟨mb + 1, 0, none⟩ rfl _) (by have := hmb.out; omega) hBx.out.size⟩
      · have hqq : (mkB u).toList.isEmpty = false := by
          rw [mkB_toList]
          cases u with
          | nil => exact absurd rfl hu
          | cons x l => rfl
        have hne2 : Hid (∀ (j : Nat) (v : W8), j < i + 1 → (pcs 32 s)[j]? = some v → v ≠ []) := Lib.hid (fun j v hj hv => by
          by_cases hji : j < i
          · exact hne.out j v hji hv
          · obtain rfl : j = i := by omega
            rw [hgt.out] at hv
            injection hv with hv
            rw [← hv]
            exact hu)
        clear hu
        go_wp2_with fail
        refine (bad_f (by first | rfl | (simp; done) | (simp; omega)) 4 _).mono ?_
        rintro e w6 ⟨rfl, rfl⟩
        go_wp2
        go_roundw
        case rel => exact ⟨i + 1, by omega, by go_num, (by first | rfl | trivial), hne2⟩
        case measure => simp [RowKit.intOf]; omega
    case neg =>
      have hiI : ¬ (i : Int) < n := by omega
      have hR : RdT wr rb (pcs 32 s) := ⟨_, n, n, hRD.out, hrD.out, (fun _ g off e => by cases e; exact hlt.out.1), hlt.out.2.1, fun u hu => ⟨by have := pcs_small 32 s u hu; omega, by
        obtain ⟨j, hj, rfl⟩ := List.getElem_of_mem hu
        exact hne.out j _ (by have := hn.out; omega) (List.getElem?_eq_getElem hj)⟩⟩
      have HE := Lib.hid (rdevent_any (pcs 32 s) (by omega) hR (hT.out.on hBD.out))
      have hM0 := hXD.out.lt
      clear hR
      go_wp2_with fail
      refine HE.out.mono ?_
      rintro e w5 ⟨hp, hk5⟩
      have hX5 := hk5.blk hXD.out (by have := hlt.out; omega)
      have hE5 := hk5.blk hED.out (by have := hlt.out; omega)
      have hB5 := Lib.hid (Kp.below hBD.out hk5 (by have := hlt.out; have := hmb.out; omega) hBD.out.size)
      clear HE
      cases hv : parseW (pcs 32 s) with
      | none =>
        rw [hv] at hp
        obtain rfl : e = pan 4 := hp
        have hpn : Hid (parseL s = none) := Lib.hid hv
        have hX := hX5
        have hBx := hB5
        have c0 : w5.cell? ⟨mb + 1, 0, none⟩ = some (.int .i64 0) := hE5.cell rfl
        have f0 := hE5.fz 0
        unfold pan
        refine leaves_cons (f := 31) (args := #[.pointer (some ⟨mb + 1, 0, none⟩)]) (by simp) (by simp [go_sem]) ?_
        refine (caught_err (mb + 1) _ 4 [] _ c0 f0).mono ?_
        rintro e u' w'' ⟨rfl, rfl, rfl⟩
        simp only [Leaves, settle, List.dropWhile]
        exact ⟨_, results_cell2 rfl _ _ mb 34 (evC TEv.zero none 0 0 none 0 0) (0, 0) _ rfl (BlkAt.other hX (by show mb ≠ mb + 1; omega) _) Tryz.underlying34 rfl Tryz.evI ⟨mb + 1, 0, none⟩ rfl (.int .i64 4) (Tryz.errL _ _ _ (World.cell?_setCell_same _ _ _ c0)), PTry.no hpn.out rfl, Kp.below hBx.out ((Kp.refl (mb + 1) _).setCell ⟨mb + 1, 0, none⟩ rfl _) (by have := hmb.out; omega) hBx.out.size⟩
      | some y =>
        rw [hv] at hp
        obtain ⟨da, dc, na, nc, rfl, hd5, hn5, hdb, hnb⟩ := hp
        have hF := Lib.hid (EvF.mk hd5 hn5 hdb hnb)
        have hpy : Hid (parseL s = some y) := Lib.hid hv
        obtain ⟨cs, hcs⟩ : ∃ z, z = evC y da y.m.deps.length dc na y.names.length nc := ⟨_, rfl⟩
        have hIE : (Tryz.prog.info? 34).map (·.size) = some cs.size := by rw [hcs]; exact Tryz.evI
        have h1c : cs.all (·.oneCell') = true := by rw [hcs]; exact evC_one _ _ _ _ _ _ _
        have h19 : 0 + cs.size ≤ 19 := by rw [hcs, evC_size]; decide
        have hset : setArr #[.int .i64 0, .int .i64 0, .int .u64 0, .int .i64 0, .int .u64 0, .int .i64 0, .int .u64 0, .int .i64 0, .int .u32 0, .int .u64 0, .int .i64 0, .slice none 0 0, .string ⟨#[]⟩, .int .u64 0, .int .u64 0, .int .i64 0, .int .u64 0, .slice none 0 0, .string ⟨#[]⟩] 0 cs.toList = cs := by rw [hcs]; exact evC_set _ _ _ _ _ _ _
        rw [← hcs]
        replace hcs := Lib.hid hcs
        clear hv hd5 hn5 hdb hnb
        go_wp2_with (first
          | (refine wpList_blk_put (cs := cs) rfl (.tmp 2) (.tmp 25) rfl rfl rfl hX5 hIE h19 h1c ?_; intro w6 hX6 hK6 hs6; rw [hset] at hX6; have hE6 := hK6.blk hE5 (by omega); have c0 : w6.cell? ⟨mb + 1, 0, none⟩ = some (.int .i64 0) := hE6.cell rfl; have f0 := hE6.fz 0))
        have hB6 := Kp.below hB5.out hK6 (by have := hmb.out; omega) hB5.out.size
        have hK7 : Kp (mb + 1) w6 (w6.setCell ⟨mb + 1, 0, none⟩ (.int .i64 0)) := (Kp.refl (mb + 1) _).setCell ⟨mb + 1, 0, none⟩ rfl _
        have hF6 := hF.out.kp hK6 (by omega)
        have hF7 := hF6.kp hK7 (by have := hE5.lt; have := hXD.out; have := hlt.out; have := hRD.out.lt; omega)
        refine leaves_cons (f := 31) (args := #[.pointer (some ⟨mb + 1, 0, none⟩)]) (by simp) (by simp [go_sem]) ?_
        refine (caught_idle _ _).mono ?_
        rintro e u' w'' ⟨rfl, rfl, rfl⟩
        simp only [Leaves, settle]
        exact ⟨_, results_cell2 rfl _ _ mb 34 cs (0, 0) _ rfl (BlkAt.other hX6 (by show mb ≠ mb + 1; omega) _) Tryz.underlying34 rfl hIE ⟨mb + 1, 0, none⟩ rfl (.int .i64 0) (Tryz.errL _ _ _ (World.cell?_setCell_same _ _ _ c0)), PTry.yes hpy.out (by rw [hcs.out]) (hF7.mono hBD.out.size), Kp.below hB6 hK7 (by have := hmb.out; omega) hB6.size⟩
end Go.Proofs.YtpkknhhohbobaaaGreatDoor
