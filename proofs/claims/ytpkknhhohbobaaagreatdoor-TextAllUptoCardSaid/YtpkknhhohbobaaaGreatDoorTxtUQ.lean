/- text: Split; the reader's deps -/
import Derived.Test.YtpkknhhohbobaaaGreatDoorTxtTQ
namespace Go.Proofs.YtpkknhhohbobaaaGreatDoor
set_option linter.unusedSimpArgs false
set_option linter.unusedVariables false
open Go.RowKit Go.Sort
section
variable {b : Nat} {w w' : World} {ws : List W8}
theorem splitB_pcs (c : UInt8) (l : W8) : Lib.splitB ⟨#[c]⟩ 0 (Lib.countB (mkB l) ⟨#[c]⟩) (mkB l) = (pcs c l).map mkB := by
  have h1 := Lib.splitB_data ⟨#[c]⟩ 0 (Lib.countB (mkB l) ⟨#[c]⟩) (mkB l)
  have h2 : Lib.splitK [c] 0 (Lib.countB (mkB l) ⟨#[c]⟩) l = pcs c l := split_pcs c l
  rw [show (⟨#[c]⟩ : ByteArray).data.toList = [c] from rfl, show (mkB l).data.toList = l from rfl, h2] at h1
  rw [← h1, List.map_map]
  conv => lhs; rw [← List.map_id (Lib.splitB ⟨#[c]⟩ 0 (Lib.countB (mkB l) ⟨#[c]⟩) (mkB l))]
  exact List.map_congr_left (fun s _ => (mkB_list s).symm)
theorem countB_pcs (c : UInt8) (l : W8) : Lib.countB (mkB l) ⟨#[c]⟩ + 1 = (pcs c l).length := by
  have := Lib.splitB_all ⟨#[c]⟩ (Nat.le_refl 1) 0 (Lib.countB (mkB l) ⟨#[c]⟩) (mkB l) rfl
  rw [splitB_pcs, List.length_map] at this
  exact this.symm
theorem split_any (c : UInt8) (l : W8) (hl : l.length < 4294967281) (w : World) (hT : TL w) :
    Calls Tryz.prog 32 #[.string (mkB l), .string ⟨#[c]⟩] w fun e w' => e = .returned (.slice (some ⟨w.heap.size, 0, none⟩) (pcs c l).length (pcs c l).length) ∧ w' = w.alloc (.cells ((pcs c l).map sv).toArray 9) := by
  obtain ⟨m, hm⟩ := hT.max
  have := Tryz.strings_Split (mkB l) ⟨#[c]⟩ m w (by rw [mkB_size]; exact hl) hm (Nat.le_refl 1)
  rw [countB_pcs, splitB_pcs, List.map_map] at this
  exact this
theorem mkB_tail (x : UInt8) (t : W8) : (mkB (x :: t)).extract 1 (t.length + 1) = mkB t := by
  rw [← mkB_list ((mkB (x :: t)).extract 1 (t.length + 1))]
  congr 1
  simp [mkB]
theorem pcs_le (c : UInt8) : ∀ l : W8, (pcs c l).length ≤ l.length + 1
  | [] => Nat.le_refl _
  | x :: l => by
    have := pcs_le c l
    unfold pcs
    split
    · simp; omega
    · cases h : pcs c l with
      | nil => simp
      | cons p r => rw [h] at this; simp at this ⊢; omega
theorem pcs_small (c : UInt8) : ∀ l : W8, ∀ p ∈ pcs c l, p.length ≤ l.length
  | [], p, h => by obtain rfl := List.mem_singleton.1 h; exact Nat.le_refl _
  | x :: l, p, h => by
    have ih := pcs_small c l
    unfold pcs at h
    split at h
    · rcases List.mem_cons.1 h with rfl | h
      · simp
      · have := ih p h; simp; omega
    · cases e : pcs c l with
      | nil => rw [e] at h; obtain rfl := List.mem_singleton.1 h; simp
      | cons q r =>
        rw [e] at h ih
        rcases List.mem_cons.1 h with rfl | h
        · have := ih q (by simp); simp; omega
        · have := ih p (by simp [h]); simp; omega
theorem Tryz.u32E : Elt Tryz.prog 27 26 (.int .u32 0) 1 4 := ⟨by kernel_rfl, by kernel_rfl, rfl, by decide⟩
def c32 (l : List Nat) : List Value := l.map fun d : Nat => .int .u32 (d : Int)
/-- What the reading of a row of counts answers. -/
def PRD (o : Option (List Nat × List W8)) (B b : Nat) (e : Ending) (w' : World) : Prop := match o with
  | none => e = pan 4
  | some (ds, r) => ∃ a c, e = .returned (.slice a ds.length c) ∧ Rd w' 1 a ds.length c (c32 ds) ∧ (ds.length ≠ 0 → ∀ g off, a = some ⟨g, off, none⟩ → B ≤ g) ∧ RdT w' b r
theorem PRD.no {o : Option (List Nat × List W8)} {B : Nat} {e : Ending} (h : o = none) (he : e = pan 4) : PRD o B b e w := by subst h; exact he
theorem PRD.yes {o : Option (List Nat × List W8)} {B : Nat} {ds : List Nat} {r : List W8} {e : Ending} {a : Option Addr} {n c : Nat} (h : o = some (ds, r)) (hn : n = ds.length) (he : e = .returned (.slice a n c)) (hd : Rd w 1 a n c (c32 ds)) (hB : n ≠ 0 → ∀ g off, a = some ⟨g, off, none⟩ → B ≤ g) (hr : RdT w b r) : PRD o B b e w := by
  subst h hn
  exact ⟨a, c, he, hd, hB, hr⟩
theorem takeD_cons (u : W8) (r : List W8) : takeD (u :: r) = (depsN u).map (fun v => (v, r)) := rfl
theorem depsN_cons2 (x : UInt8) (t : W8) : depsN (x :: t) = if x = 100 then (if t = [] then some [] else mapO (fun w => valN w 4294967295) (pcs 44 t)) else none := rfl
set_option maxHeartbeats 3200000 in
set_option maxRecDepth 100000 in
theorem rddeps_any (ws : List W8) (h : RdT w b ws) (hT : TL w) :
    Calls Tryz.prog 75 #[.pointer (some ⟨b, 0, none⟩)] w fun e w' => PRD (takeD ws) w.heap.size b e w' ∧ Kp b w w' := by
  have HW := Lib.hid (word_any ws h)
  have h8 := h.b8
  have hs := h.small
  have hf := h.full
  replace hT := Lib.hid hT
  clear h
  go_enter Tryz.func75, Tryz.ntmps75
  go_wp2_with fail
  refine HW.out.mono ?_
  rintro e w1 ⟨hp, hk⟩
  clear HW
  cases ws with
  | nil =>
    obtain rfl : e = pan 4 := hp
    exact ⟨rfl, PRD.no rfl rfl, hk⟩
  | cons u r =>
    obtain ⟨rfl, hR⟩ := hp
    have hul := hs u (by simp)
    have hun := hf u (by simp)
    replace hR := Lib.hid hR
    replace hk := Lib.hid hk
    clear hs hf
    cases u with
    | nil => exact absurd rfl hun
    | cons x0 t =>
      have hI0 : ∀ W : World, (Instr.index 9 (.string (mkB (x0 :: t))) (.int .i64 0)).run Tryz.prog W = .ok (.int .u8 (x0.toNat : Int)) W := idx_mkB (x0 :: t) 0 x0 rfl .i64
      have hSl := mkB_toList (x0 :: t)
      have hsz := mkB_size (x0 :: t)
      obtain ⟨S, hS⟩ : ∃ z, z = mkB (x0 :: t) := ⟨_, rfl⟩
      rw [← hS] at hI0 hSl hsz ⊢
      rw [List.length_cons] at hul hsz
      replace hS := Lib.hid hS
      by_cases hx : x0 = 100
      · have hxI : (x0.toNat : Int) = 100 := by rw [hx]; rfl
        have hq := Lib.hid (show takeD ((x0 :: t) :: r) = (if t = [] then some [] else mapO (fun w => valN w 4294967295) (pcs 44 t)).map (fun v => (v, r)) from by rw [takeD_cons, depsN_cons2, if_pos hx])
        subst hx
        clear hSl
        go_wp2_with fail
        refine (bad_f (by first | rfl | (simp; done) | (simp; omega)) 4 _).mono ?_
        rintro e w2 ⟨rfl, rfl⟩
        clear hI0 hxI
        by_cases ht : t = []
        · subst ht
          have hz := Lib.hid (show takeD ((100 :: []) :: r) = some ([], r) from by rw [hq.out]; rfl)
          have hSl : S.toList = [100] := by rw [hS.out]; exact mkB_toList _
          go_wp2_with fail
          go_ret
          exact ⟨PRD.yes (ds := []) hz.out rfl rfl ⟨⟨rfl, Nat.le_refl _, Nat.zero_le _, fun _ => ⟨rfl, rfl⟩⟩, .inl rfl⟩ (fun e => absurd rfl e) hR.out, hk.out⟩
        · rw [if_neg ht] at hq
          have hSl : (S.toList == [100]) = false := by
            rw [hS.out, mkB_toList, beq_eq_false_iff_ne]
            intro e
            injection e with _ e
            exact ht e
          have hex : S.extract 1 (t.length + 1) = mkB t := by rw [hS.out]; exact mkB_tail _ _
          have hSp := Lib.hid (split_any 44 t (by omega) w1 (hT.out.kp hk.out h8))
          have hLl := pcs_le 44 t
          have hLs := pcs_small 44 t
          generalize pcs 44 t = L at *
          clear ht
          go_wp2_with fail
          refine hSp.out.mono ?_
          rintro e w2 ⟨rfl, hw2⟩
          have hb2 := alloc_below w1 (.cells (L.map sv).toArray 9)
          have hr2 : Rd (w1.alloc (.cells (L.map sv).toArray 9)) 1 (some ⟨w1.heap.size, 0, none⟩) L.length L.length (L.map sv) := by
            have := Rd.lit (w := w1) (cs := (L.map sv).toArray) (e := 9) (b := w1.heap.size) (n := L.length) rfl (by simp) (by unfold maxLen; omega)
            simpa using this
          rw [← hw2] at hb2 hr2
          have hk2 := Lib.hid (hk.out.trans (Kp.ofBelow (b := b) hb2))
          have hR2 := Lib.hid (hR.out.below hb2)
          have hgw := hk.out.size
          have hg2 := hb2.size
          clear hw2 hSp hex hSl hR hk hb2
          generalize w1.heap.size = g at *
          replace hr2 := Lib.hid hr2
          have hn32 : L.length ≤ 4294967296 := by omega
          obtain ⟨n, hn⟩ : ∃ z, z = L.length := ⟨_, rfl⟩
          rw [← hn] at hr2 hn32 ⊢
          replace hn := Lib.hid hn
          clear hLl
          go_wp2
          go_loopw [4, 6, 20] (fun dv _ kv wr => ∃ (k : Nat) (acc : List Nat), k ≤ n ∧ kv = .int .i64 k ∧ Hid (acc.length = k) ∧ Hid (wr.ownsRow w2.heap.size 26 1 dv k (c32 acc)) ∧ Hid (mapO (fun w => valN w 4294967295) L = (mapO (fun w => valN w 4294967295) (L.drop k)).map (acc ++ ·)) ∧ Hid (Below w2.heap.size w2 wr)) (fun _ _ kv _ => n - (RowKit.intOf kv).toNat)
          case atStart => exact ⟨0, [], Nat.zero_le _, rfl, Lib.hid rfl, Lib.hid (World.ownsRow_nil _ _ _ _), Lib.hid (by rw [List.drop_zero]; cases mapO (fun w => valN w 4294967295) L <;> rfl), Lib.hid (Below.refl _ _)⟩
          case round =>
            obtain ⟨k, acc, hkn, rfl, hal, ho, hu, hb⟩ := hrel
            obtain ⟨w3, rfl⟩ : ∃ z, z = wr := ⟨_, rfl⟩
            obtain ⟨pa, pc, rfl, hrd⟩ := Rd.own ho.out
            by_cases hin : k < n
            · have hkI : (k : Int) < n := by omega
              have hkL : k < L.length := by have := hn.out; omega
              have c1 : w3.cell? ⟨g, k, none⟩ = some (.string (mkB L[k])) := by
                have := (hr2.out.below hb.out (Nat.le_refl _)).at (j := k) (u := sv L[k]) (by rw [List.getElem?_map, List.getElem?_eq_getElem hkL]; rfl)
                simpa [sv] using this
              have hpl := hLs L[k] (List.getElem_mem hkL)
              have hdr := Lib.hid (show L.drop k = L[k] :: L.drop (k + 1) from List.drop_eq_getElem_cons hkL)
              generalize L[k] = p at *
              rw [hdr.out] at hu
              have HV := Lib.hid (value_any p 4294967295 (by decide) (by omega) w3 ((hT.out.kp hk2.out h8).on hb.out))
              clear hdr hrd
              go_wp2_with fail
              refine HV.out.mono ?_
              rintro e w4 ⟨hv, hb4⟩
              have hb5 := Lib.hid (belS hb.out hb4)
              clear HV c1
              cases hval : valN p 4294967295 with
              | none =>
                rw [hval] at hv
                obtain rfl : e = pan 4 := hv
                exact ⟨rfl, PRD.no (by rw [hq.out, hu.out]; simp [mapO, hval]) rfl, hk2.out.trans (Kp.ofBelow hb5.out)⟩
              | some d =>
                rw [hval] at hv
                obtain rfl : e = .returned (.int .u64 (d : Int)) := hv
                have hd32 := (valN_some.1 hval).2
                have hwd : IntKind.u32.wrap (d : Int) = d := by rw [IntKind.wrap_u32]; omega
                have hun2 := Lib.hid (show mapO (fun w => valN w 4294967295) L = (mapO (fun w => valN w 4294967295) (L.drop (k + 1))).map ((acc ++ [d]) ++ ·) from by
                  rw [hu.out]
                  simp only [mapO, hval]
                  cases mapO (fun w => valN w 4294967295) (L.drop (k + 1)) <;> simp)
                have ho4 := own_belowB ho.out hb4
                have hb6 := hb5.out.alloc hb5.out.size (.cells #[.int .u32 (d : Int)] 26)
                have hb6a := (Below.refl w4.heap.size w4).alloc (Nat.le_refl _) (.cells #[.int .u32 (d : Int)] 26)
                have ho5 := own_belowB ho4 hb6a
                have hr5 : Rd (w4.alloc (.cells #[.int .u32 (d : Int)] 26)) 1 (some ⟨w4.heap.size, 0, none⟩) 1 1 (c32 [d]) := Rd.lit rfl rfl (by decide)
                clear hb6a ho4 hu hval hb4 hb
                go_wp2_with (first | (refine wpList_append_apart Tryz.u32E rfl (.tmp 24) (.tmp 28) rfl ho5 rfl hr5 (by decide) rfl (by intro u hu; obtain rfl := List.mem_singleton.1 hu; rfl) (by unfold maxLen; omega) (by omega) hb6.size ?_; intro v' w6 ho6 hg6 hv6; have hb7 := Lib.hid (hb6.grown hg6 hb6.size (fun k hk => (ho5.lt k hk).1)); replace ho6 := Lib.hid ho6; clear ho5 hr5 hb6 hg6 hv6))
                go_roundw
                case rel => exact ⟨k + 1, acc ++ [d], by omega, by go_num, Lib.hid (by rw [List.length_append, hal.out]; rfl), Lib.hid (by rw [show c32 (acc ++ [d]) = c32 acc ++ c32 [d] from List.map_append]; exact ho6.out), hun2, hb7⟩
                case measure => simp [RowKit.intOf]; omega
            · have hkI : ¬ (k : Int) < n := by omega
              obtain rfl : k = n := by omega
              have hz := Lib.hid (show takeD ((100 :: t) :: r) = some (acc, r) from by
                rw [hq.out, hu.out, List.drop_of_length_le (by have := hn.out; omega)]
                simp [mapO])
              have hR3 := Lib.hid (hR2.out.below hb.out)
              have hk3 := Lib.hid (hk2.out.trans (Kp.ofBelow hb.out))
              have hfr := Lib.hid (ho.out.lt)
              replace hrd := Lib.hid hrd
              clear hu hb
              go_wp2_with fail
              go_ret
              exact ⟨PRD.yes hz.out hal.out.symm rfl hrd.out (fun h0 g' off e => by subst e; have := (hfr.out g' rfl).1; omega) hR3.out, hk3.out⟩
      · have hxI : ¬ (x0.toNat : Int) = 100 := fun e => hx (UInt8.toNat_inj.1 (show x0.toNat = 100 from by omega))
        have hq := Lib.hid (show takeD ((x0 :: t) :: r) = none from by rw [takeD_cons, depsN_cons2, if_neg hx]; rfl)
        clear hx
        go_wp2_with fail
        refine (bad_t (by first | rfl | (simp; done) | (simp; omega)) 4 _).mono ?_
        rintro e w2 ⟨rfl, rfl⟩
        exact ⟨rfl, PRD.no hq.out rfl, hk.out⟩
end
end Go.Proofs.YtpkknhhohbobaaaGreatDoor
