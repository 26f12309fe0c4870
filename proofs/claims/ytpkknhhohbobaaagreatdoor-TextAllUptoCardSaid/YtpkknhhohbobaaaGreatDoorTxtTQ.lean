/- text: the reader's bytes -/
import Derived.Test.YtpkknhhohbobaaaGreatDoorG4
namespace Go.Proofs.YtpkknhhohbobaaaGreatDoor
set_option linter.unusedSimpArgs false
set_option linter.unusedVariables false
open Go.RowKit Go.Sort
section
variable {b : Nat} {w w' : World} {ws : List W8}
abbrev digL : W8 := [48, 49, 50, 51, 52, 53, 54, 55, 56, 57, 97, 98, 99, 100, 101, 102]
/-- What IndexByte answers among the digits. -/
def nbI (c : UInt8) : Int := match nib c with
  | some x => (x : Int)
  | none => -1
theorem nbI_fin : ∀ c : Fin 256, Lib.indexByte digL ((c.val : Int).toNat.toUInt8) = nbI (UInt8.ofNat c.val) := by decide +kernel
theorem nbI_ix (c : UInt8) : Lib.indexByte digL ((c.toNat : Int).toNat.toUInt8) = nbI c := by
  have := nbI_fin ⟨c.toNat, c.toNat_lt⟩
  rwa [show UInt8.ofNat (⟨c.toNat, c.toNat_lt⟩ : Fin 256).val = c from by simp] at this
theorem nib_lt {c : UInt8} {x : Nat} (h : nib c = some x) : x < 16 := by
  unfold nib at h
  split at h
  · injection h with h; omega
  · split at h
    · injection h with h; omega
    · cases h
theorem unhex2_odd : ∀ t : W8, t.length % 2 = 1 → unhex2 t = none
  | [], h => by simp at h
  | [_], _ => rfl
  | a :: b :: r, h => by
    unfold unhex2
    rw [unhex2_odd r (by simp at h; omega)]
    cases nib a <;> cases nib b <;> rfl
theorem takeB_cons (u : W8) (r : List W8) : takeB (u :: r) = (unhex u).map (fun v => (v, r)) := rfl
theorem unhex_cons2 (x : UInt8) (t : W8) : unhex (x :: t) = if x = 120 then unhex2 t else none := rfl
theorem byte_or_fin : ∀ x : Fin 16, ∀ y : Fin 16, bits BinOp.or IntKind.i64 ((x.val : Int) * 16) (y.val : Int) % 256 = ((UInt8.ofNat (x.val * 16 + y.val)).toNat : Int) := by decide +kernel
theorem byte_or {x y : Nat} (hx : x < 16) (hy : y < 16) : bits BinOp.or IntKind.i64 ((x : Int) * 16) (y : Int) % 256 = ((UInt8.ofNat (x * 16 + y)).toNat : Int) := byte_or_fin ⟨x, hx⟩ ⟨y, hy⟩
theorem unhex2_none {a c : UInt8} {r : W8} (h : nib a = none ∨ nib c = none) : unhex2 (a :: c :: r) = none := by
  unfold unhex2
  rcases h with h | h
  · rw [h]
  · rw [h]; cases nib a <;> rfl
set_option maxHeartbeats 3200000 in
set_option maxRecDepth 100000 in
theorem rdbytes_any (ws : List W8) (h : RdT w b ws) (hT : TL w) :
    Calls Tryz.prog 55 #[.pointer (some ⟨b, 0, none⟩)] w fun e w' => PR (takeB ws) (fun v => .string (mkB v)) b e w' ∧ Kp b w w' := by
  have HW := Lib.hid (word_any ws h)
  have h8 := h.b8
  have hs := h.small
  have hf := h.full
  replace hT := Lib.hid hT
  clear h
  go_enter Tryz.func55, Tryz.ntmps55
  go_wp2_with fail
  refine HW.out.mono ?_
  rintro e w1 ⟨hp, hk⟩
  clear HW
  cases ws with
  | nil =>
    obtain rfl : e = pan 4 := hp
    exact ⟨rfl, PR.no rfl rfl, hk⟩
  | cons u r =>
    obtain ⟨rfl, hR⟩ := hp
    have hul := hs u (by simp)
    have hun := hf u (by simp)
    replace hR := Lib.hid hR
    replace hk := Lib.hid hk
    clear hs hf
    cases u with
    | nil => exact absurd rfl hun
    | cons x0 t =>
      have hsz := mkB_size (x0 :: t)
      have hi0 := Lib.hid (fun (i : Nat) (c : UInt8) (h : (x0 :: t)[i]? = some c) (W : World) => idx_mkB (x0 :: t) i c h .i64 W)
      have hI0 : ∀ W : World, (Instr.index 9 (.string (mkB (x0 :: t))) (.int .i64 0)).run Tryz.prog W = .ok (.int .u8 (x0.toNat : Int)) W := hi0.out 0 x0 rfl
      obtain ⟨S, hS⟩ : ∃ z, z = mkB (x0 :: t) := ⟨_, rfl⟩
      rw [← hS] at hsz hi0 hI0 ⊢
      rw [List.length_cons] at hsz hul
      replace hS := Lib.hid hS
      by_cases hx : x0 = 120
      · by_cases ht : t.length % 2 = 1
        · have hev : (S.size : Int) % 2 = 0 := by omega
          have hxI : (x0.toNat : Int) = 120 := by rw [hx]; rfl
          have hq := Lib.hid (show takeB ((x0 :: t) :: r) = none from by rw [takeB_cons, unhex_cons2, if_pos hx, unhex2_odd t ht]; rfl)
          clear hx ht
          go_wp2_with fail
          refine (bad_t (by first | rfl | (simp; done) | (simp; omega)) 4 _).mono ?_
          rintro e w2 ⟨rfl, rfl⟩
          exact ⟨rfl, PR.no hq.out rfl, hk.out⟩
        · have hev : (S.size : Int) % 2 = 1 := by omega
          have hxI : (x0.toNat : Int) = 120 := by rw [hx]; rfl
          have hq := Lib.hid (show takeB ((x0 :: t) :: r) = (unhex2 t).map (fun v => (v, r)) from by rw [takeB_cons, unhex_cons2, if_pos hx])
          clear hx
          go_wp2_with fail
          refine (bad_f (by first | rfl | (simp; done) | (simp; omega)) 4 _).mono ?_
          rintro e w2 ⟨rfl, rfl⟩
          clear hI0 hxI
          have HX := Lib.hid (fun (c : UInt8) (W : World) => Tryz.strings_IndexByte ⟨#[48, 49, 50, 51, 52, 53, 54, 55, 56, 57, 97, 98, 99, 100, 101, 102]⟩ (c.toNat : Int) W)
          go_wp2
          go_loopw [4, 5, 6, 7] (fun pv iv _ _ wr => ∃ (i j : Nat) (acc : W8), i = 1 + 2 * j ∧ 2 * j ≤ t.length ∧ acc.length = j ∧ iv = .int .i64 i ∧ Hid (wr.ownsRow w1.heap.size 5 1 pv j (cU acc)) ∧ Hid (unhex2 t = (unhex2 (t.drop (2 * j))).map (acc ++ ·)) ∧ Hid (Below w1.heap.size w1 wr)) (fun _ iv _ _ _ => S.size - (RowKit.intOf iv).toNat)
          case atStart => exact ⟨1, 0, [], rfl, by omega, rfl, rfl, Lib.hid (World.ownsRow_nil _ _ _ _), Lib.hid (by rw [Nat.mul_zero, List.drop_zero]; cases unhex2 t <;> rfl), Lib.hid (Below.refl _ _)⟩
          case round =>
            obtain ⟨i, j, acc, hij, hj, hal, rfl, ho, hu, hb⟩ := hrel
            obtain ⟨w2, rfl⟩ : ∃ z, z = wr := ⟨_, rfl⟩
            by_cases hin : 2 * j < t.length
            · have hiI : (i : Int) < S.size := by omega
              have hj2 : 2 * j + 1 < t.length := by omega
              have hI1 := hi0.out i t[2 * j] (by rw [hij, Nat.add_comm 1, List.getElem?_cons_succ, List.getElem?_eq_getElem hin])
              have hI2 : ∀ W : World, (Instr.index 9 (.string S) (.int .i64 ((i : Int) + 1))).run Tryz.prog W = .ok (.int .u8 (t[2 * j + 1].toNat : Int)) W := hi0.out (i + 1) t[2 * j + 1] (by rw [List.getElem?_cons_succ, hij, Nat.add_comm 1, List.getElem?_eq_getElem hj2])
              have hdr := Lib.hid (show t.drop (2 * j) = t[2 * j] :: t[2 * j + 1] :: t.drop (2 * j + 2) from by rw [List.drop_eq_getElem_cons hin, List.drop_eq_getElem_cons hj2])
              generalize t[2 * j] = c1 at *
              generalize t[2 * j + 1] = c2 at *
              rw [hdr.out] at hu
              have hX1 := Lib.hid (fun W => HX.out c1 W)
              have hX2 := Lib.hid (fun W => HX.out c2 W)
              have e1 := nbI_ix c1
              have e2 := nbI_ix c2
              rw [e1] at hX1
              rw [e2] at hX2
              obtain ⟨n1, hn1⟩ : ∃ z, z = nbI c1 := ⟨_, rfl⟩
              obtain ⟨n2, hn2⟩ : ∃ z, z = nbI c2 := ⟨_, rfl⟩
              rw [← hn1] at hX1
              rw [← hn2] at hX2
              replace hn1 := Lib.hid hn1
              replace hn2 := Lib.hid hn2
              have hi32 : i ≤ 4294967296 := by omega
              have hwi : IntKind.i64.wrap ((i : Int) + 1) = (i : Int) + 1 := by rw [IntKind.wrap_i64]; omega
              replace hij := Lib.hid hij
              replace hsz := Lib.hid hsz
              replace hal := Lib.hid hal
              clear e1 e2 hdr hev ht
              go_upto_region 7 with (fail)
              refine wp_region_held_drew (S := fun _ => True) (by kernel_rfl) trivial ?_
              intro hHeld
              have hb3 := Lib.hid (hb.out.drew)
              have ho3 : Hid (World.ownsRow w2.drew _ _ _ _ _ _) := Lib.hid (own_belowB ho.out ((Below.refl w2.heap.size w2).drew))
              clear ho hb
              generalize w2.drew = w3 at *
              (refine wpAnyH_take (i := 0) (v := ?_) rfl (by kernel_rfl) (by kernel_rfl) (by kernel_rfl) (fun _ _ _ h => h) (Or.inl ⟨by rfl, ?_⟩) (by assumption) ?_; rotate_left; (focus (intro w hSw; clear hSw; go_simp; (try with_reducible rfl))); (try simp only [Act.put, List.getElem_toArray, List.getElem_cons_zero, List.getElem_cons_succ, List.setIfInBounds_toArray, List.set_cons_zero, List.set_cons_succ]))
              (refine wpAnyH_take (i := 1) (v := ?_) rfl (by kernel_rfl) (by kernel_rfl) (by kernel_rfl) (fun _ _ _ h => h) (Or.inl ⟨by rfl, ?_⟩) (by assumption) ?_; rotate_left; (focus (intro w hSw; clear hSw; go_simp; (try with_reducible rfl))); (try simp only [Act.put, List.getElem_toArray, List.getElem_cons_zero, List.getElem_cons_succ, List.setIfInBounds_toArray, List.set_cons_zero, List.set_cons_succ]))
              (refine wpAnyH_take (i := 2) (v := ?_) rfl (by kernel_rfl) (by kernel_rfl) (by kernel_rfl) (fun _ _ _ h => h) (Or.inl ⟨by rfl, ?_⟩) (by assumption) ?_; rotate_left; (focus (intro w hSw; clear hSw; go_simp; (try with_reducible rfl))); (try simp only [Act.put, List.getElem_toArray, List.getElem_cons_zero, List.getElem_cons_succ, List.setIfInBounds_toArray, List.set_cons_zero, List.set_cons_succ]))
              (refine wpAnyH_take (i := 4) (v := ?_) rfl (by kernel_rfl) (by kernel_rfl) (by kernel_rfl) (fun _ _ _ h => h) (Or.inl ⟨by rfl, ?_⟩) (by assumption) ?_; rotate_left; (focus (intro w hSw; clear hSw; go_simp; (try with_reducible rfl))); (try simp only [Act.put, List.getElem_toArray, List.getElem_cons_zero, List.getElem_cons_succ, List.setIfInBounds_toArray, List.set_cons_zero, List.set_cons_succ]))
              (refine wpAnyH_take (i := 5) (v := ?_) rfl (by kernel_rfl) (by kernel_rfl) (by kernel_rfl) (fun _ _ _ h => h) (Or.inl ⟨by rfl, ?_⟩) (by assumption) ?_; rotate_left; (focus (intro w hSw; clear hSw; go_simp; (try with_reducible rfl))); (try simp only [Act.put, List.getElem_toArray, List.getElem_cons_zero, List.getElem_cons_succ, List.setIfInBounds_toArray, List.set_cons_zero, List.set_cons_succ]))
              (refine wpAnyH_take (i := 6) (v := ?_) rfl (by kernel_rfl) (by kernel_rfl) (by kernel_rfl) (fun _ _ _ h => h) (Or.inl ⟨by rfl, ?_⟩) (by assumption) ?_; rotate_left; (focus (intro w hSw; clear hSw; go_simp; (try with_reducible rfl))); (try simp only [Act.put, List.getElem_toArray, List.getElem_cons_zero, List.getElem_cons_succ, List.setIfInBounds_toArray, List.set_cons_zero, List.set_cons_succ]))
              (refine wpAnyH_take (i := 7) (v := ?_) rfl (by kernel_rfl) (by kernel_rfl) (by kernel_rfl) (fun _ _ _ h => h) (Or.inl ⟨by rfl, ?_⟩) (by assumption) ?_; rotate_left; (focus (intro w hSw; clear hSw; go_simp; (try with_reducible rfl))); (try simp only [Act.put, List.getElem_toArray, List.getElem_cons_zero, List.getElem_cons_succ, List.setIfInBounds_toArray, List.set_cons_zero, List.set_cons_succ]))
              (refine wpAnyH_ready (rs := [3]) (by kernel_rfl) (by simp) ?_; refine AllReadyH.cons rfl (fun K hK => ?_) AllReadyH.nil)
              go_simp
              refine (hX1.out _).mono ?_
              rintro e w4 ⟨rfl, rfl⟩
              refine hK.out _ _ trivial (fun hHeld => ?_)
              clear hK K
              (refine wpAnyH_ready (rs := [8]) (by kernel_rfl) (by simp) ?_; refine AllReadyH.cons rfl (fun K hK => ?_) AllReadyH.nil)
              go_simp
              refine (hX2.out _).mono ?_
              rintro e w4 ⟨rfl, rfl⟩
              refine hK.out _ _ trivial (fun hHeld => ?_)
              clear hK K
              (refine wpAnyH_take (i := 9) (v := ?_) rfl (by kernel_rfl) (by kernel_rfl) (by kernel_rfl) (fun _ _ _ h => h) (Or.inl ⟨by rfl, ?_⟩) (by assumption) ?_; rotate_left; (focus (intro w hSw; clear hSw; go_simp; (try with_reducible rfl))); (try simp only [Act.put, List.getElem_toArray, List.getElem_cons_zero, List.getElem_cons_succ, List.setIfInBounds_toArray, List.set_cons_zero, List.set_cons_succ]))
              (refine wpAnyH_take (i := 10) (v := ?_) rfl (by kernel_rfl) (by kernel_rfl) (by kernel_rfl) (fun _ _ _ h => h) (Or.inl ⟨by rfl, ?_⟩) (by assumption) ?_; rotate_left; (focus (intro w hSw; clear hSw; go_simp; (try with_reducible rfl))); (try simp only [Act.put, List.getElem_toArray, List.getElem_cons_zero, List.getElem_cons_succ, List.setIfInBounds_toArray, List.set_cons_zero, List.set_cons_succ]))
              refine wpAnyH_done (by kernel_rfl) ?_ _
              clear hHeld hX1 hX2 hI1 hI2
              by_cases hg : nib c1 = none ∨ nib c2 = none
              · have hz := Lib.hid (show takeB ((x0 :: t) :: r) = none from by rw [hq.out, hu.out, unhex2_none hg]; rfl)
                have hng : n1 < 0 ∨ ¬ n1 < 0 ∧ n2 < 0 := by
                  rw [hn1.out, hn2.out]
                  unfold nbI
                  rcases hg with hg | hg <;> rw [hg] <;> cases nib c1 <;> simp <;> omega
                have hk3 := Lib.hid (hk.out.trans (Kp.ofBelow hb3.out))
                clear hg hu
                rcases hng with h1 | ⟨h1, h2⟩
                · go_wp2_with fail
                  refine (bad_t (by first | rfl | (simp; done) | (simp; omega)) 4 _).mono ?_
                  rintro e w5 ⟨rfl, rfl⟩
                  exact ⟨rfl, PR.no hz.out rfl, hk3.out⟩
                · go_wp2_with fail
                  refine (bad_t (by first | rfl | (simp; done) | (simp; omega)) 4 _).mono ?_
                  rintro e w5 ⟨rfl, rfl⟩
                  exact ⟨rfl, PR.no hz.out rfl, hk3.out⟩
              · obtain ⟨x, hx⟩ : ∃ x, nib c1 = some x := Option.ne_none_iff_exists'.1 (fun h => hg (.inl h))
                obtain ⟨y, hy⟩ : ∃ y, nib c2 = some y := Option.ne_none_iff_exists'.1 (fun h => hg (.inr h))
                have hx16 := nib_lt hx
                have hy16 := nib_lt hy
                have hun2 := Lib.hid (show unhex2 t = (unhex2 (t.drop (2 * (j + 1)))).map ((acc ++ [UInt8.ofNat (x * 16 + y)]) ++ ·) from by
                  rw [hu.out]
                  show (match nib c1, nib c2 with | some x, some y => (unhex2 (t.drop (2 * j + 2))).map (fun t => UInt8.ofNat (x * 16 + y) :: t) | _, _ => none).map (acc ++ ·) = _
                  rw [hx, hy]
                  show ((unhex2 (t.drop (2 * (j + 1)))).map _).map _ = _
                  cases unhex2 (t.drop (2 * (j + 1))) <;> simp)
                obtain rfl : n1 = (x : Int) := by rw [hn1.out]; unfold nbI; rw [hx]
                obtain rfl : n2 = (y : Int) := by rw [hn2.out]; unfold nbI; rw [hy]
                clear hg hu hx hy hn1 hn2
                go_wp2_with fail
                refine (bad_f (by first | rfl | (simp; done) | (simp; omega)) 4 _).mono ?_
                rintro e w5 ⟨rfl, rfl⟩
                obtain ⟨pa, pc, rfl, _⟩ := Rd.own ho3.out
                have hby := byte_or hx16 hy16
                obtain ⟨d, hd⟩ : ∃ d, d = UInt8.ofNat (x * 16 + y) := ⟨_, rfl⟩
                rw [← hd] at hby hun2
                replace hd := Lib.hid hd
                have hx0I : ¬ (x : Int) < 0 := by omega
                have hy0I : ¬ (y : Int) < 0 := by omega
                have hb5 := hb3.out.alloc hb3.out.size (.cells #[.int .u8 (d.toNat : Int)] 5)
                have hb5a := (Below.refl w4.heap.size w4).alloc (Nat.le_refl _) (.cells #[.int .u8 (d.toNat : Int)] 5)
                have ho5 := own_belowB ho3.out hb5a
                have hr5 : Rd (w4.alloc (.cells #[.int .u8 (d.toNat : Int)] 5)) 1 (some ⟨w4.heap.size, 0, none⟩) 1 1 (cU [d]) := one_row d
                have hjm : j ≤ 4294967296 := by omega
                clear hb5a
                go_wp2_with (first | (refine wpList_append_apart Tryz.u8E rfl (.tmp 42) (.tmp 48) rfl ho5 rfl hr5 (by decide) rfl (cU_one _) (by unfold maxLen; omega) (by omega) hb5.size ?_; intro v' w6 ho6 hg6 hv6; have hb6 := Lib.hid (hb5.grown hg6 hb5.size (fun k hk => (ho5.lt k hk).1)); rw [← cU_append] at ho6; replace ho6 := Lib.hid ho6; clear ho5 hr5 hb5 hg6 hv6))
                go_roundw
                case rel => exact ⟨i + 2, j + 1, acc ++ [d], by have := hij.out; omega, by omega, by have := hal.out; simp [this], by go_num, ho6, hun2, hb6⟩
                case measure => simp [RowKit.intOf]; omega
            · have hiI : ¬ (i : Int) < S.size := by omega
              have hz := Lib.hid (show takeB ((x0 :: t) :: r) = some (acc, r) from by
                rw [hq.out, hu.out, List.drop_of_length_le (by omega)]
                simp [unhex2])
              obtain ⟨pa, pc, rfl, hrd⟩ := Rd.own ho.out
              have hR2 := Lib.hid (hR.out.below hb.out)
              have hk2 := Lib.hid (hk.out.trans (Kp.ofBelow hb.out))
              clear ho hu hb
              go_wp2_with (first | (refine wpList_cU_str Tryz.underlying67 Tryz.underlying5 Tryz.underlying9 rfl (.tmp 50) rfl rfl hrd ?_))
              go_ret
              exact ⟨PR.yes hz.out rfl hR2.out, hk2.out⟩
      · have hxI : ¬ (x0.toNat : Int) = 120 := fun e => hx (UInt8.toNat_inj.1 (show x0.toNat = 120 from by omega))
        have hq := Lib.hid (show takeB ((x0 :: t) :: r) = none from by rw [takeB_cons, unhex_cons2, if_neg hx]; rfl)
        clear hx
        go_wp2_with fail
        refine (bad_t (by first | rfl | (simp; done) | (simp; omega)) 4 _).mono ?_
        rintro e w2 ⟨rfl, rfl⟩
        exact ⟨rfl, PR.no hq.out rfl, hk.out⟩
end
end Go.Proofs.YtpkknhhohbobaaaGreatDoor
