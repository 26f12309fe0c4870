/- text: the reference's taker: conf, nibble, bytes -/
import Derived.Test.YtpkknhhohbobaaaGreatDoorTxtRbQ
namespace Go.Proofs.YtpkknhhohbobaaaGreatDoor
set_option linter.unusedSimpArgs false
set_option linter.unusedVariables false
open Go.RowKit Go.Sort
section
variable {b : Nat} {w w' : World} {ws : List W8} {ok : Bool}
set_option maxHeartbeats 3200000 in
set_option maxRecDepth 100000 in
theorem rtconf_any (ws : List W8) (ok : Bool) (h : TkT w b ws ok) :
    Calls Tryz.prog 36 #[.pointer (some ⟨b, 0, none⟩)] w fun e w' => e = .returned (.agg #[.int .u64 ((twoR (ws.headD []) 18446744073709551615 63).1.1 : Int), .int .i64 (IntKind.i64.wrap ((twoR (ws.headD []) 18446744073709551615 63).1.2 : Int))]) ∧ TkT w' b ws.tail (ok2 ws 18446744073709551615 63 ok) ∧ Kp b w w' := by
  have hlt := h.lt
  have hb1 := alloc_below w (.cells #[.int .u64 0, .int .i64 0] 25)
  have hM := BlkAt.new w 25 #[.int .u64 0, .int .i64 0]
  obtain ⟨w1, hw1⟩ : ∃ z, z = w.alloc (.cells #[.int .u64 0, .int .i64 0] 25) := ⟨_, rfl⟩
  rw [← hw1] at hb1 hM
  obtain ⟨mb, hmb⟩ : ∃ z, z = w.heap.size := ⟨_, rfl⟩
  rw [← hmb] at hM
  have hmbb : mb ≠ b := by omega
  have hbm : b < mb := by omega
  have HT := Lib.hid (rtwo_any ws ok 18446744073709551615 63 (by decide) (by decide) (h.below hb1))
  have hk1 := Lib.hid (Kp.ofBelow (b := b) hb1)
  have hcv : ∀ y : Nat, y < 18446744073709551616 → True := fun _ _ => trivial
  replace hM := Lib.hid hM
  replace hw1 := Lib.hid hw1
  replace hmb := Lib.hid hmb
  generalize ok2 ws 18446744073709551615 63 ok = z at *
  generalize twoR (ws.headD []) 18446744073709551615 63 = t at *
  obtain ⟨⟨x, y⟩, tt⟩ := t
  clear h hb1 hcv
  have hI : (Tryz.prog.info? 25).map (·.size) = some 2 := by kernel_rfl
  obtain ⟨yi, hyi⟩ : ∃ q, q = IntKind.i64.wrap (y : Int) := ⟨_, rfl⟩
  go_enter Tryz.func36, Tryz.ntmps36
  go_wp2_with fail
  rw [← hw1.out, ← hmb.out]
  refine HT.out.mono ?_
  rintro e w2 ⟨rfl, h2, k2⟩
  have hM2 := Lib.hid (k2.blk hM.out hmbb)
  have hk2 := Lib.hid (hk1.out.trans k2)
  replace h2 := Lib.hid h2
  clear HT hM hk1 k2
  have hyw : IntKind.i64.wrap (y : Int) = yi := hyi.symm
  replace hyi := Lib.hid hyi
  go_wp2_with (first | (refine wpList_blk_put (cs := #[.int .u64 (x : Int), .int .i64 yi]) rfl (.tmp 2) (.tmp 13) rfl rfl (by first | rfl | simp [hyw]) hM2.out hI (by show 0 + 2 ≤ 2; decide) (by simp [Value.oneCell']) ?_; intro w4 hM4 hK4 hs4))
  have hR4 := h2.out.off hK4 hbm
  have hk4 := Kp.near hk2.out hK4 hs4 (by have := hmb.out; omega)
  refine bodyPost_ret (results_cell_row rfl _ _ mb 25 _ (0, 0) _ rfl hM4 Tryz.underlying25 rfl hI) rfl ?_
  exact ⟨by first | rfl | (rw [← hyi.out]; rfl), hR4, hk4⟩
set_option maxHeartbeats 800000 in
theorem rnib_any (c : UInt8) (w : World) : Calls Tryz.prog 57 #[.int .u8 (c.toNat : Int)] w fun e w' => e = .returned (.tuple #[.int .u8 ((nib c).getD 0 : Nat), .bool (nib c).isSome]) ∧ w = w' := by
  by_cases h1 : 48 ≤ c.toNat ∧ c.toNat ≤ 57
  · have hz : Hid (nib c = some (c.toNat - 48)) := Lib.hid (if_pos h1)
    obtain ⟨d, hd⟩ : ∃ d, d = c.toNat - 48 := ⟨_, rfl⟩
    rw [← hd] at hz
    have a1 : (48 : Int) ≤ c.toNat := by omega
    have a2 : (c.toNat : Int) ≤ 57 := by omega
    have a3 : IntKind.u8.wrap ((c.toNat : Int) - 48) = d := by rw [IntKind.wrap_u8]; omega
    clear h1 hd
    generalize (c.toNat : Int) = x at *
    go_enter Tryz.func57, Tryz.ntmps57
    go_wp2
    refine bodyPost_ret (v := .tuple #[.int .u8 (d : Int), .bool true]) (by simp [results, Tryz.results57, go_sem]) rfl ?_
    exact ⟨by rw [hz.out]; rfl, rfl⟩
  · by_cases h2 : 97 ≤ c.toNat ∧ c.toNat ≤ 102
    · have hz : Hid (nib c = some (c.toNat - 87)) := Lib.hid (by unfold nib; rw [if_neg h1, if_pos h2])
      obtain ⟨d, hd⟩ : ∃ d, d = c.toNat - 87 := ⟨_, rfl⟩
      rw [← hd] at hz
      have a0 : (48 : Int) ≤ c.toNat := by omega
      have a1 : ¬ (c.toNat : Int) ≤ 57 := by omega
      have a4 : (97 : Int) ≤ c.toNat := by omega
      have a2 : (c.toNat : Int) ≤ 102 := by omega
      have a3 : IntKind.u8.wrap ((c.toNat : Int) - 87) = d := by rw [IntKind.wrap_u8]; omega
      clear h1 h2 hd
      generalize (c.toNat : Int) = x at *
      go_enter Tryz.func57, Tryz.ntmps57
      go_wp2
      refine bodyPost_ret (v := .tuple #[.int .u8 (d : Int), .bool true]) (by simp [results, Tryz.results57, go_sem]) rfl ?_
      exact ⟨by rw [hz.out]; rfl, rfl⟩
    · have hz : Hid (nib c = none) := Lib.hid (by unfold nib; rw [if_neg h1, if_neg h2])
      have hq : ∀ P : Prop, ((c.toNat : Int) < 48 → ¬ (97 : Int) ≤ c.toNat → P) → ((48 : Int) ≤ c.toNat → ¬ (c.toNat : Int) ≤ 57 → ¬ (97 : Int) ≤ c.toNat → P) → ((48 : Int) ≤ c.toNat → ¬ (c.toNat : Int) ≤ 57 → (97 : Int) ≤ c.toNat → ¬ (c.toNat : Int) ≤ 102 → P) → P := fun P k1 k2 k3 => by
        by_cases a : (c.toNat : Int) < 48
        · exact k1 a (by omega)
        · by_cases b : (97 : Int) ≤ c.toNat
          · exact k3 (by omega) (by omega) b (by omega)
          · exact k2 (by omega) (by omega) b
      clear h1 h2
      refine hq _ ?_ ?_ ?_
      · intro a1 a2
        have a3 : ¬ (48 : Int) ≤ c.toNat := by omega
        clear hq a1
        go_enter Tryz.func57, Tryz.ntmps57
        go_wp2
        refine bodyPost_ret (v := .tuple #[.int .u8 0, .bool false]) (by simp [results, Tryz.results57, go_sem]) rfl ?_
        exact ⟨by rw [hz.out]; rfl, rfl⟩
      · intro a1 a2 a3
        clear hq
        go_enter Tryz.func57, Tryz.ntmps57
        go_wp2
        refine bodyPost_ret (v := .tuple #[.int .u8 0, .bool false]) (by simp [results, Tryz.results57, go_sem]) rfl ?_
        exact ⟨by rw [hz.out]; rfl, rfl⟩
      · intro a1 a2 a3 a4
        clear hq
        go_enter Tryz.func57, Tryz.ntmps57
        go_wp2
        refine bodyPost_ret (v := .tuple #[.int .u8 0, .bool false]) (by simp [results, Tryz.results57, go_sem]) rfl ?_
        exact ⟨by rw [hz.out]; rfl, rfl⟩
/-- What the reference makes of pairs of digits. -/
def hexR : W8 → W8 × Bool
  | a :: b :: r => (UInt8.ofNat ((nib a).getD 0 * 16 + (nib b).getD 0) :: (hexR r).1, ((nib a).isSome && (nib b).isSome) && (hexR r).2)
  | _ => ([], true)
theorem hexR_unhex : ∀ t : W8, t.length % 2 = 0 → unhex2 t = if (hexR t).2 = true then some (hexR t).1 else none
  | [], _ => rfl
  | [_], h => by simp at h
  | a :: b :: r, h => by
    have ih := hexR_unhex r (by simp only [List.length_cons] at h; omega)
    show (match nib a, nib b with | some x, some y => (unhex2 r).map (fun t => UInt8.ofNat (x * 16 + y) :: t) | _, _ => none) = if (((nib a).isSome && (nib b).isSome) && (hexR r).2) = true then some (UInt8.ofNat ((nib a).getD 0 * 16 + (nib b).getD 0) :: (hexR r).1) else none
    rw [ih]
    cases nib a with
    | none => simp
    | some x =>
      cases nib b with
      | none => simp
      | some y => cases (hexR r).2 <;> simp
/-- What the reference takes for bytes. -/
def bytR (u : W8) : W8 × Bool := if u.length % 2 = 0 then ([], false) else match u with
  | x :: t => if x = 120 then hexR t else ([], false)
  | [] => ([], false)
theorem bytR_cons (x : UInt8) (t : W8) : bytR (x :: t) = if (x :: t).length % 2 = 0 then ([], false) else if x = 120 then hexR t else ([], false) := rfl
theorem bytR_unhex (u : W8) : unhex u = if (bytR u).2 = true then some (bytR u).1 else none := by
  cases u with
  | nil => rfl
  | cons x t =>
    rw [bytR_cons]
    show (if x = 120 then unhex2 t else none) = _
    by_cases hl : (x :: t).length % 2 = 0
    · rw [if_pos hl]
      have : t.length % 2 = 1 := by simp only [List.length_cons] at hl; omega
      rw [unhex2_odd t this]
      simp
    · rw [if_neg hl]
      have : t.length % 2 = 0 := by simp only [List.length_cons] at hl; omega
      by_cases hx : x = 120
      · rw [if_pos hx, if_pos hx, hexR_unhex t this]
      · rw [if_neg hx, if_neg hx]
        rfl
theorem nib15 (c : UInt8) : (nib c).getD 0 ≤ 15 := by
  unfold nib
  split
  · show c.toNat - 48 ≤ 15; omega
  · split
    · show c.toNat - 87 ≤ 15; omega
    · exact Nat.zero_le _
theorem Kp.grown {v : World} {row : Option Nat} (h : Kp b v w) (g : w.grownBy w' row) (hrow : ∀ k, row = some k → v.heap.size ≤ k) : Kp b v w' :=
  ⟨g.os.trans h.os, g.tape.trans h.tape, g.output.trans h.output, Nat.le_trans h.size g.size, fun i hi hne => (g.block i (by have := h.size; omega) (fun e => by have := hrow i e.symm; omega)).trans (h.block i hi hne)⟩
set_option maxHeartbeats 6400000 in
set_option maxRecDepth 100000 in
theorem rtbytes_any (ws : List W8) (ok : Bool) (h : TkT w b ws ok) :
    Calls Tryz.prog 37 #[.pointer (some ⟨b, 0, none⟩)] w fun e w' => e = .returned (.string (mkB (bytR (ws.headD [])).1)) ∧ TkT w' b ws.tail (okN ws ok && (bytR (ws.headD [])).2) ∧ Kp b w w' := by
  have HN := Lib.hid (rnext_any ws ok h)
  have hhd := h.hd
  have hbw := h.lt
  generalize okN ws ok = q0 at *
  generalize ws.headD [] = u at *
  generalize ws.tail = ts at *
  clear h
  have hsz := mkB_size u
  have hi0 := Lib.hid (fun (i : Nat) (c : UInt8) (h : u[i]? = some c) (W : World) => idx_mkB u i c h .i64 W)
  obtain ⟨S, hS⟩ : ∃ z, z = mkB u := ⟨_, rfl⟩
  rw [← hS] at hsz hi0 HN
  replace hS := Lib.hid hS
  obtain ⟨L, hL⟩ : ∃ z, z = u.length := ⟨_, rfl⟩
  rw [← hL] at hsz hhd
  go_enter Tryz.func37, Tryz.ntmps37
  go_wp2_with fail
  refine HN.out.mono ?_
  rintro e w1 ⟨rfl, h1, k1⟩
  clear HN
  obtain ⟨d1, f1, -⟩ := h1.cells
  by_cases hev : L % 2 = 0
  · have hz : Hid (bytR u = ([], false)) := Lib.hid (if_pos (by rw [← hL]; exact hev))
    have hevI : (S.size : Int) % 2 = 0 := by omega
    have hfl := Lib.hid (h1.flag false)
    clear h1 hev
    replace hsz := Lib.hid hsz
    go_wp2
    go_ret
    exact ⟨by rw [hz.out]; rfl, by rw [hz.out, Bool.and_false]; exact hfl.out, k1.setCell ⟨b, 1, none⟩ rfl _⟩
  · have hevI : ((S.size : Int) % 2 == 0) = false := by rw [beq_eq_false_iff_ne]; omega
    cases u with
    | nil => exact absurd (by rw [hL]; rfl) hev
    | cons x0 t =>
      have hI0 : ∀ W : World, (Instr.index 9 (.string S) (.int .i64 0)).run Tryz.prog W = .ok (.int .u8 (x0.toNat : Int)) W := hi0.out 0 x0 rfl
      have hLt : L = t.length + 1 := hL
      by_cases hx : x0 = 120
      · have hxI : (x0.toNat : Int) = 120 := by rw [hx]; rfl
        have hz : Hid (bytR (x0 :: t) = hexR t) := Lib.hid (by rw [bytR_cons, if_neg (by rw [← hL]; exact hev), if_pos hx])
        have hte : t.length % 2 = 0 := by omega
        replace h1 := Lib.hid h1
        have hw1s := Lib.hid k1.size
        replace k1 := Lib.hid k1
        clear hx d1 f1
        replace hL := Lib.hid hL
        replace hsz := Lib.hid hsz
        go_wp2
        clear hI0 hxI hevI
        go_loopw [4, 5, 6, 7, 8, 9] (fun pv iv _ _ _ _ wr => ∃ (i j : Nat) (acc : W8) (q : Bool), i = 1 + 2 * j ∧ 2 * j ≤ t.length ∧ acc.length = j ∧ iv = .int .i64 i ∧ Hid (wr.ownsRow w1.heap.size 5 1 pv j (cU acc)) ∧ Hid ((hexR t).1 = acc ++ (hexR (t.drop (2 * j))).1) ∧ Hid ((q0 && (hexR t).2) = (q && (hexR (t.drop (2 * j))).2)) ∧ Hid (TkT wr b ts q) ∧ Hid (Kp b w wr) ∧ Hid (w1.heap.size ≤ wr.heap.size)) (fun _ iv _ _ _ _ _ => S.size - (RowKit.intOf iv).toNat)
        case atStart => exact ⟨1, 0, [], q0, rfl, by omega, rfl, rfl, Lib.hid (World.ownsRow_nil _ _ _ _), Lib.hid rfl, Lib.hid rfl, h1, k1, Lib.hid (Nat.le_refl _)⟩
        case round =>
          obtain ⟨i, j, acc, q, hij, hj, hal, rfl, ho, hh, hq, hT2, hk, hsz2⟩ := hrel
          obtain ⟨w2, rfl⟩ : ∃ z, z = wr := ⟨_, rfl⟩
          clear h1 k1
          by_cases hin : 2 * j < t.length
          · have hszo := hsz.out
            have hiI : (i : Int) < S.size := by omega
            have hj2 : 2 * j + 1 < t.length := by omega
            have hI1 := hi0.out i t[2 * j] (by rw [hij, Nat.add_comm 1, List.getElem?_cons_succ, List.getElem?_eq_getElem hin])
            have hI2 : ∀ W : World, (Instr.index 9 (.string S) (.int .i64 ((i : Int) + 1))).run Tryz.prog W = .ok (.int .u8 (t[2 * j + 1].toNat : Int)) W := hi0.out (i + 1) t[2 * j + 1] (by rw [List.getElem?_cons_succ, hij, Nat.add_comm 1, List.getElem?_eq_getElem hj2])
            have hdr := Lib.hid (show t.drop (2 * j) = t[2 * j] :: t[2 * j + 1] :: t.drop (2 * (j + 1)) from by rw [List.drop_eq_getElem_cons hin, List.drop_eq_getElem_cons hj2]; rfl)
            generalize t[2 * j] = c1 at *
            generalize t[2 * j + 1] = c2 at *
            rw [hdr.out] at hh hq
            have N1 := Lib.hid (fun W => rnib_any c1 W)
            have N2 := Lib.hid (fun W => rnib_any c2 W)
            have x15 := nib15 c1
            have y15 := nib15 c2
            have hh2 : Hid ((hexR t).1 = (acc ++ [UInt8.ofNat ((nib c1).getD 0 * 16 + (nib c2).getD 0)]) ++ (hexR (t.drop (2 * (j + 1)))).1) := Lib.hid (by rw [hh.out]; simp [hexR])
            have hq2 : Hid ((q0 && (hexR t).2) = ((q && ((nib c1).isSome && (nib c2).isSome)) && (hexR (t.drop (2 * (j + 1)))).2)) := Lib.hid (by rw [hq.out]; show (q && (((nib c1).isSome && (nib c2).isSome) && (hexR (t.drop (2 * (j + 1)))).2)) = _; exact (Bool.and_assoc ..).symm)
            generalize (nib c1).getD 0 = x at *
            generalize (nib c2).getD 0 = y at *
            generalize (nib c1).isSome = r1 at *
            generalize (nib c2).isSome = r2 at *
            obtain ⟨d, hd⟩ : ∃ d, d = UInt8.ofNat (x * 16 + y) := ⟨_, rfl⟩
            have hdn : (d.toNat : Int) = (x : Int) * 16 + y := by rw [hd, ofNat_toNat (by omega)]; omega
            rw [← hd] at hh2
            replace hd := Lib.hid hd
            have hw1 : IntKind.u8.wrap ((x : Int) * 16) = (x : Int) * 16 := by rw [IntKind.wrap_u8]; omega
            have hw2 : IntKind.u8.wrap ((x : Int) * 16 + y) = (x : Int) * 16 + y := by rw [IntKind.wrap_u8]; omega
            have hi32 : i ≤ 4294967296 := by omega
            have hwi : IntKind.i64.wrap ((i : Int) + 1) = (i : Int) + 1 := by rw [IntKind.wrap_i64]; omega
            have hwi2 : IntKind.i64.wrap ((i : Int) + 2) = (i : Int) + 2 := by rw [IntKind.wrap_i64]; omega
            have hi1 : (0 : Int) ≤ (i : Int) + 1 := by omega
            have hi2 : (i : Int) + 1 < S.size := by omega
            replace hij := Lib.hid hij
            replace hal := Lib.hid hal
            have hjm : j ≤ 4294967296 := by omega
            obtain ⟨d1, f1, -⟩ := hT2.out.cells
            have hfl := Lib.hid (fun r => hT2.out.flag r)
            obtain ⟨pa, pc, rfl, _⟩ := Rd.own ho.out
            clear hdr hh hq hszo hT2 x15 y15 hd
            go_wp2_with fail
            refine (N1.out _).mono ?_
            rintro e w3 ⟨rfl, rfl⟩
            go_wp2_with fail
            refine (N2.out _).mono ?_
            rintro e w3 ⟨rfl, rfl⟩
            clear N1 N2 hI1 hI2
            have hwsz : w.heap.size ≤ w1.heap.size := hw1s.out
            have hjL : 2 * (j + 1) ≤ t.length := by omega
            cases q with
            | false =>
              go_upto_region 12 with (fail)
              have hT3 := Lib.hid (hfl.out false)
              have hk3 := Lib.hid (hk.out.setCell ⟨b, 1, none⟩ rfl (.bool false))
              have ho3 : Hid ((w2.setCell ⟨b, 1, none⟩ (.bool false)).ownsRow w1.heap.size 5 1 (.slice pa j pc) j (cU acc)) := Lib.hid (own_keep ho.out (fun g hg hlt => Below.heap_setCell _ _ _ _ (show g ≠ b from by have := (ho.out.lt g hg).1; omega)))
              have hz3 : w1.heap.size ≤ (w2.setCell ⟨b, 1, none⟩ (.bool false)).heap.size := by simpa [World.setCell] using hsz2.out
              have hw3 : Hid (w.heap.size ≤ (w2.setCell ⟨b, 1, none⟩ (.bool false)).heap.size) := Lib.hid hk3.out.size
              generalize w2.setCell ⟨b, 1, none⟩ (.bool false) = w3 at *
              have hbA := alloc_below w3 (.cells #[.int .u8 (d.toNat : Int)] 5)
              have ho5 := own_belowB ho3.out hbA
              have hr5 : Rd (w3.alloc (.cells #[.int .u8 (d.toNat : Int)] 5)) 1 (some ⟨w3.heap.size, 0, none⟩) 1 1 (cU [d]) := one_row d
              have hz5 := Nat.le_trans hz3 hbA.size
              have hT5 := Lib.hid (hT3.out.below hbA)
              have hk5 := Lib.hid (hk3.out.trans (Kp.ofBelow hbA))
              rw [hdn] at ho5 hr5 hz5 hT5 hk5
              clear ho3 hT3 hk3 hbA hfl ho hdn
              go_wp2_with (first | (refine wpList_append_apart Tryz.u8E rfl (.tmp 58) (.tmp 63) rfl ho5 rfl hr5 (by decide) rfl (cU_one _) (by unfold maxLen; omega) (by omega) hz5 ?_; intro v' w6 ho6 hg6 hv6; have hb6 := (Below.refl (b + 1) _).grown hg6 (by omega) (fun k hk => by have := (ho5.lt k hk).1; omega); have hT6 := Lib.hid (hT5.out.lower hb6 (Nat.lt_succ_self b)); have hk6 := Lib.hid (hk5.out.grown hg6 (fun k hk => by have := (ho5.lt k hk).1; omega)); have hz6 := Lib.hid (Nat.le_trans hz5 hg6.size); rw [← cU_append] at ho6; replace ho6 := Lib.hid ho6; clear ho5 hr5 hg6 hv6 hb6))
              go_roundw
              case rel => exact ⟨i + 2, j + 1, acc ++ [d], false, by have := hij.out; omega, by omega, by have := hal.out; simp [this], by go_num, ho6, hh2, Lib.hid (by rw [hq2.out]; rfl), hT6, hk6, hz6⟩
              case measure => simp [RowKit.intOf]; omega
            | true =>
              cases r1 with
              | false =>
                go_upto_region 12 with (fail)
                have hT3 := Lib.hid (hfl.out false)
                have hk3 := Lib.hid (hk.out.setCell ⟨b, 1, none⟩ rfl (.bool false))
                have ho3 : Hid ((w2.setCell ⟨b, 1, none⟩ (.bool false)).ownsRow w1.heap.size 5 1 (.slice pa j pc) j (cU acc)) := Lib.hid (own_keep ho.out (fun g hg hlt => Below.heap_setCell _ _ _ _ (show g ≠ b from by have := (ho.out.lt g hg).1; omega)))
                have hz3 : w1.heap.size ≤ (w2.setCell ⟨b, 1, none⟩ (.bool false)).heap.size := by simpa [World.setCell] using hsz2.out
                have hw3 : Hid (w.heap.size ≤ (w2.setCell ⟨b, 1, none⟩ (.bool false)).heap.size) := Lib.hid hk3.out.size
                generalize w2.setCell ⟨b, 1, none⟩ (.bool false) = w3 at *
                have hbA := alloc_below w3 (.cells #[.int .u8 (d.toNat : Int)] 5)
                have ho5 := own_belowB ho3.out hbA
                have hr5 : Rd (w3.alloc (.cells #[.int .u8 (d.toNat : Int)] 5)) 1 (some ⟨w3.heap.size, 0, none⟩) 1 1 (cU [d]) := one_row d
                have hz5 := Nat.le_trans hz3 hbA.size
                have hT5 := Lib.hid (hT3.out.below hbA)
                have hk5 := Lib.hid (hk3.out.trans (Kp.ofBelow hbA))
                rw [hdn] at ho5 hr5 hz5 hT5 hk5
                clear ho3 hT3 hk3 hbA hfl ho hdn
                go_wp2_with (first | (refine wpList_append_apart Tryz.u8E rfl (.tmp 58) (.tmp 63) rfl ho5 rfl hr5 (by decide) rfl (cU_one _) (by unfold maxLen; omega) (by omega) hz5 ?_; intro v' w6 ho6 hg6 hv6; have hb6 := (Below.refl (b + 1) _).grown hg6 (by omega) (fun k hk => by have := (ho5.lt k hk).1; omega); have hT6 := Lib.hid (hT5.out.lower hb6 (Nat.lt_succ_self b)); have hk6 := Lib.hid (hk5.out.grown hg6 (fun k hk => by have := (ho5.lt k hk).1; omega)); have hz6 := Lib.hid (Nat.le_trans hz5 hg6.size); rw [← cU_append] at ho6; replace ho6 := Lib.hid ho6; clear ho5 hr5 hg6 hv6 hb6))
                go_roundw
                case rel => exact ⟨i + 2, j + 1, acc ++ [d], false, by have := hij.out; omega, by omega, by have := hal.out; simp [this], by go_num, ho6, hh2, Lib.hid (by rw [hq2.out]; rfl), hT6, hk6, hz6⟩
                case measure => simp [RowKit.intOf]; omega
              | true =>
                go_upto_region 12 with (fail)
                have hT3 := Lib.hid (hfl.out r2)
                have hk3 := Lib.hid (hk.out.setCell ⟨b, 1, none⟩ rfl (.bool r2))
                have ho3 : Hid ((w2.setCell ⟨b, 1, none⟩ (.bool r2)).ownsRow w1.heap.size 5 1 (.slice pa j pc) j (cU acc)) := Lib.hid (own_keep ho.out (fun g hg hlt => Below.heap_setCell _ _ _ _ (show g ≠ b from by have := (ho.out.lt g hg).1; omega)))
                have hz3 : w1.heap.size ≤ (w2.setCell ⟨b, 1, none⟩ (.bool r2)).heap.size := by simpa [World.setCell] using hsz2.out
                have hw3 : Hid (w.heap.size ≤ (w2.setCell ⟨b, 1, none⟩ (.bool r2)).heap.size) := Lib.hid hk3.out.size
                generalize w2.setCell ⟨b, 1, none⟩ (.bool r2) = w3 at *
                have hbA := alloc_below w3 (.cells #[.int .u8 (d.toNat : Int)] 5)
                have ho5 := own_belowB ho3.out hbA
                have hr5 : Rd (w3.alloc (.cells #[.int .u8 (d.toNat : Int)] 5)) 1 (some ⟨w3.heap.size, 0, none⟩) 1 1 (cU [d]) := one_row d
                have hz5 := Nat.le_trans hz3 hbA.size
                have hT5 := Lib.hid (hT3.out.below hbA)
                have hk5 := Lib.hid (hk3.out.trans (Kp.ofBelow hbA))
                rw [hdn] at ho5 hr5 hz5 hT5 hk5
                clear ho3 hT3 hk3 hbA hfl ho hdn
                go_wp2_with (first | (refine wpList_append_apart Tryz.u8E rfl (.tmp 58) (.tmp 63) rfl ho5 rfl hr5 (by decide) rfl (cU_one _) (by unfold maxLen; omega) (by omega) hz5 ?_; intro v' w6 ho6 hg6 hv6; have hb6 := (Below.refl (b + 1) _).grown hg6 (by omega) (fun k hk => by have := (ho5.lt k hk).1; omega); have hT6 := Lib.hid (hT5.out.lower hb6 (Nat.lt_succ_self b)); have hk6 := Lib.hid (hk5.out.grown hg6 (fun k hk => by have := (ho5.lt k hk).1; omega)); have hz6 := Lib.hid (Nat.le_trans hz5 hg6.size); rw [← cU_append] at ho6; replace ho6 := Lib.hid ho6; clear ho5 hr5 hg6 hv6 hb6))
                go_roundw
                case rel => exact ⟨i + 2, j + 1, acc ++ [d], r2, by have := hij.out; omega, by omega, by have := hal.out; simp [this], by go_num, ho6, hh2, Lib.hid (by rw [hq2.out]; rfl), hT6, hk6, hz6⟩
                case measure => simp [RowKit.intOf]; omega
          · have hiI : ¬ (i : Int) < S.size := by have := hsz.out; omega
            have hd0 : t.drop (2 * j) = [] := List.drop_of_length_le (by omega)
            rw [hd0] at hh hq
            have hzz : Hid (bytR (x0 :: t) = (acc, (hexR t).2)) := Lib.hid (by rw [hz.out]; exact Prod.ext (by rw [hh.out]; exact List.append_nil _) rfl)
            have hqq : Hid ((q0 && (hexR t).2) = q) := Lib.hid (by rw [hq.out]; exact Bool.and_true _)
            obtain ⟨pa, pc, rfl, hrd⟩ := Rd.own ho.out
            clear ho hh hq hd0
            go_wp2_with (first | (refine wpList_cU_str Tryz.underlying67 Tryz.underlying5 Tryz.underlying9 rfl (.tmp 65) rfl rfl hrd ?_))
            go_ret
            exact ⟨by rw [hzz.out]; rfl, by rw [hzz.out, hqq.out]; exact hT2.out, hk.out⟩
      · have hxI : ¬ (x0.toNat : Int) = 120 := fun e => hx (UInt8.toNat_inj.1 (show x0.toNat = 120 from by omega))
        have hz : Hid (bytR (x0 :: t) = ([], false)) := Lib.hid (by rw [bytR_cons, if_neg (by rw [← hL]; exact hev), if_neg hx])
        have hfl := Lib.hid (h1.flag false)
        clear h1 hx
        replace hsz := Lib.hid hsz
        go_wp2
        go_ret
        exact ⟨by rw [hz.out]; rfl, by rw [hz.out, Bool.and_false]; exact hfl.out, k1.setCell ⟨b, 1, none⟩ rfl _⟩
end
end Go.Proofs.YtpkknhhohbobaaaGreatDoor
