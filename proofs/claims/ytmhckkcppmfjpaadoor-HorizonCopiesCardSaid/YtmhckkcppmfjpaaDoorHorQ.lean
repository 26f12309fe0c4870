/- the horizon: the walk of HorizonCopies -/
import Derived.Test.YtmhckkcppmfjpaaDoorHorO
namespace Go.Proofs.YtmhckkcppmfjpaaDoor
open Go.RowKit Go.Sort

def actL (s : HS) (l : List AcH) : HS := l.foldl HS.act s
theorem actL_take (s : HS) (l : List AcH) (k : Nat) (h : k < l.length) : actL s (l.take (k + 1)) = (actL s (l.take k)).act l[k] := by
  rw [List.take_succ_eq_append_getElem h, actL, List.foldl_append]; rfl
theorem HEn.copy {w0 : World} {b k : Nat} {s : HS} {O : Nat → Prop} {W : World} (h : HEn w0 b s k O W) (hk : k ≤ 1000000) :
    Calls Tryd.prog 18 #[.pointer (some ⟨b, 0, none⟩)] W fun e w' => ∃ b2 O2, e = .returned (.pointer (some ⟨b2, 0, none⟩)) ∧ HE2 w0 b b2 s s k O O2 w' := by
  obtain ⟨vs, h1⟩ := h.at_
  refine (copy_any (fun i => Nat.le_trans (h.len i) hk) h1).mono ?_
  rintro e w' ⟨b2, O2, vs2, rfl, h2, h3, h4⟩
  exact ⟨b2, O2, rfl, h.below h4, ⟨⟨vs2, h2⟩, h.bel.trans (h4.mono h.bel.size), h.ok, h.len⟩, fun g hg hc => by have := h.hi g hg; have := h3 g hc; omega⟩
set_option maxHeartbeats 6400000 in
set_option maxRecDepth 100000 in
theorem copies_any (x : Nat) (hx : x < 18446744073709551616) (a : Option Addr) (n c : Nat) (l : List AcH) (hl : ∀ y ∈ l, y.Ok) (at_ : Int) (w : World) (hr : RdA w a n c l) (hT : Tab w) :
    Calls Tryd.prog 6 #[.int .u64 x, .slice a n c, .int .i64 at_] w fun e w' => e = .returned (.bool true) ∧ Below w.heap.size w w' := by
  have hln := Lib.hid hr.len
  have hmx := Rd.le_max hr
  unfold maxLen at hmx
  have hAw := Lib.hid (awake_any w hT)
  go_enter Tryd.func6, Tryd.ntmps6
  go_wp2_with fail
  refine hAw.out.mono ?_
  rintro e w1 ⟨rfl, hb1⟩
  clear hAw
  by_cases hgt : 100 < n
  · have hgtI : (100 : Int) < n := by omega
    go_wp2
    go_ret
    exact ⟨rfl, hb1⟩
  have hgtI : ¬ (100 : Int) < n := by omega
  by_cases hneg : at_ < 0
  · go_wp2
    go_ret
    exact ⟨rfl, hb1⟩
  by_cases hbig : (n : Int) < at_
  · go_wp2
    go_ret
    exact ⟨rfl, hb1⟩
  obtain ⟨m, rfl⟩ : ∃ m : Nat, at_ = m := ⟨at_.toNat, by omega⟩
  have hmn : m ≤ n := by omega
  have hbigB : decide (n < m) = false := decide_eq_false (by omega)
  clear hneg hbig
  have HN := Lib.hid (HEn.new (w0 := w) (W := w1) 0 x hx hb1)
  go_wp2_with fail
  refine HN.out.mono ?_
  rintro e w2 ⟨b, rfl, E0, _, _⟩
  clear HN hb1 hbigB
  generalize HS.nw 0 x = s0 at *
  go_wp2
  go_loopw [8] (fun i wr => ∃ (k : Nat) (O : Nat → Prop), k ≤ m ∧ i = .int .i64 k ∧ HEn w b (actL s0 (l.take k)) k O wr) (fun i _ => m - (intOf i).toNat)
  case atStart => exact ⟨0, _, Nat.zero_le _, rfl, E0⟩
  case round =>
    clear E0
    obtain ⟨k, O, hk, rfl, E⟩ := hrel
    by_cases hlt : k < m
    · have hltI : (k : Int) < m := by omega
      as_aux_lemma =>
        (have hkl : k < l.length := (by rw [hln.out]; omega); have hkn : (k : Int) < (n : Nat) := (by omega); obtain ⟨bl, off, rfl, hbl⟩ := Rd.addr hr (by omega); have hyo := hl _ (List.getElem_mem hkl); obtain ⟨r0, r1, r2, r3⟩ := RdA.at (show RdA wr (some ⟨bl, off, none⟩) n c l from Rd.below hr E.bel (Nat.le_refl _)) k hkl; have HS := Lib.hid (actL_take s0 l k hkl); generalize l[k] = q at *)
        have hac := Lib.hid (E.act (by omega) q hyo)
        rw [← HS.out] at hac
        go_wp2_with fail
        refine hac.out.mono ?_
        rintro e w5 ⟨rfl, O5, E5, _, _⟩
        go_wp2
        go_roundw
        case rel => exact ⟨k + 1, O5, by omega, by go_num, E5⟩
        case measure => simp [intOf]; omega
    · obtain rfl : k = m := by omega
      have hcp := Lib.hid (E.copy (by omega))
      obtain ⟨S, HS0⟩ : ∃ S, Hid (actL s0 (l.take k) = S) := ⟨_, Lib.hid rfl⟩
      rw [HS0.out] at hcp
      clear E
      go_wp2_with fail
      refine hcp.out.mono ?_
      rintro e w3 ⟨b2, O2, rfl, E⟩
      clear hcp
      obtain ⟨a0, HA0⟩ : ∃ v, Hid (S.all = v) := ⟨_, Lib.hid rfl⟩
      obtain ⟨f0, HF0⟩ : ∃ v, Hid (S.safe = v) := ⟨_, Lib.hid rfl⟩
      obtain ⟨c0, HC0⟩ : ∃ v, Hid (S.clock = v) := ⟨_, Lib.hid rfl⟩
      (go_wp2_with fail; refine (E.e1.allv HA0 hT).mono ?_; rintro e wx ⟨rfl, _, hbx⟩; replace E := E.below hbx; clear hbx)
      (go_wp2_with fail; refine (E.e1.safev HF0 hT).mono ?_; rintro e wx ⟨rfl, _, hbx⟩; replace E := E.below hbx; clear hbx)
      (go_wp2_with fail; refine (E.e1.clockv HC0).mono ?_; rintro e w' ⟨rfl, rfl⟩)
      have E2 := E
      clear E
      rename_i w9
      go_wp2
      go_loopw [13] (fun i wr => ∃ (j : Nat) (O1 : Nat → Prop), k ≤ j ∧ j ≤ n ∧ i = .int .i64 j ∧ HE2 w b b2 (actL s0 (l.take j)) S j O1 O2 wr) (fun i _ => n - (intOf i).toNat)
      case atStart => exact ⟨k, _, Nat.le_refl _, hmn, rfl, by rw [HS0.out]; exact E2⟩
      case round =>
        clear E2
        obtain ⟨j, O1, hkj, hjn, rfl, E⟩ := hrel
        by_cases hlt : j < n
        · have hltI : (j : Int) < n := by omega
          as_aux_lemma =>
            clear hmn HS0 HA0 HF0 HC0
            (have hkl : j < l.length := (by rw [hln.out]; omega); have hkn : (j : Int) < (n : Nat) := (by omega); obtain ⟨bl, off, rfl, hbl⟩ := Rd.addr hr (by omega); have hyo := hl _ (List.getElem_mem hkl); obtain ⟨r0, r1, r2, r3⟩ := RdA.at (show RdA wr (some ⟨bl, off, none⟩) n c l from Rd.below hr E.bel (Nat.le_refl _)) j hkl; have HS := Lib.hid (actL_take s0 l j hkl); generalize l[j] = q at *)
            have hac := Lib.hid (E.e1.act (by omega) q hyo)
            rw [← HS.out] at hac
            go_wp2_with fail
            refine hac.out.mono ?_
            rintro e w5 ⟨rfl, hnx⟩
            obtain ⟨O5, E5⟩ := E.next1 hnx
            clear hnx E
            go_wp2
            go_roundw
            case rel => exact ⟨j + 1, O5, by omega, by omega, by go_num, E5⟩
            case measure => simp [intOf]; omega
        · obtain rfl : j = n := by omega
          (go_wp2_with fail; refine (E.e2.allv HA0 hT).mono ?_; rintro e wx ⟨rfl, _, hbx⟩; replace E := E.below hbx; clear hbx)
          (go_wp2_with fail; refine (E.e2.safev HF0 hT).mono ?_; rintro e wx ⟨rfl, _, hbx⟩; replace E := E.below hbx; clear hbx)
          (go_wp2_with fail; refine (E.e2.clockv HC0).mono ?_; rintro e w' ⟨rfl, rfl⟩)
          have E3 := E
          clear E
          go_wp2
          go_loopw [14] (fun i wr => ∃ (i3 k3 : Nat) (O1 O2 : Nat → Prop), k ≤ i3 ∧ i3 ≤ j ∧ k3 ≤ j + i3 ∧ i = .int .i64 i3 ∧ HE2 w b b2 (actL s0 (l.take j)) (actL s0 (l.take i3)) k3 O1 O2 wr) (fun i _ => j - (intOf i).toNat)
          case atStart => exact ⟨k, j, _, _, Nat.le_refl _, hmn, by omega, rfl, by rw [HS0.out]; exact E3⟩
          case round =>
            clear E3
            obtain ⟨i3, k3, O1, O2, hki, hij, hk3, rfl, E⟩ := hrel
            by_cases hlt : i3 < j
            · have hltI : (i3 : Int) < j := by omega
              as_aux_lemma =>
                clear HS0 HA0 HF0 HC0
                generalize actL s0 (l.take j) = F at *
                (have hkl : i3 < l.length := (by rw [hln.out]; omega); have hkn : (i3 : Int) < (j : Nat) := (by omega); obtain ⟨bl, off, rfl, hbl⟩ := Rd.addr hr (by omega); have hyo := hl _ (List.getElem_mem hkl); obtain ⟨r0, r1, r2, r3⟩ := RdA.at (show RdA wr (some ⟨bl, off, none⟩) j c l from Rd.below hr E.bel (Nat.le_refl _)) i3 hkl; have HS := Lib.hid (actL_take s0 l i3 hkl); generalize l[i3] = q at *)
                have hac := Lib.hid (E.e2.act (by omega) q hyo)
                rw [← HS.out] at hac
                go_wp2_with fail
                refine hac.out.mono ?_
                rintro e w5 ⟨rfl, hnx⟩
                obtain ⟨O5, E5⟩ := E.next2 hnx
                clear hnx E
                go_wp2
                go_roundw
                case rel => exact ⟨i3 + 1, k3 + 1, _, O5, by omega, by omega, by omega, by go_num, E5⟩
                case measure => simp [intOf]; omega
            · obtain rfl : i3 = j := by omega
              obtain ⟨F, HF⟩ : ∃ F, Hid (actL s0 (l.take i3) = F) := ⟨_, Lib.hid rfl⟩
              rw [HF.out] at E
              obtain ⟨a1, HA1⟩ : ∃ v, Hid (F.all = v) := ⟨_, Lib.hid rfl⟩
              obtain ⟨f1, HF1⟩ : ∃ v, Hid (F.safe = v) := ⟨_, Lib.hid rfl⟩
              obtain ⟨c1, HC1⟩ : ∃ v, Hid (F.clock = v) := ⟨_, Lib.hid rfl⟩
              (go_wp2_with fail; refine (E.e2.allv HA1 hT).mono ?_; rintro e wx ⟨rfl, _, hbx⟩; replace E := E.below hbx; clear hbx)
              (go_wp2_with fail; refine (E.e1.allv HA1 hT).mono ?_; rintro e wx ⟨rfl, _, hbx⟩; replace E := E.below hbx; clear hbx)
              (go_wp2_with fail; refine (E.e2.safev HF1 hT).mono ?_; rintro e wx ⟨rfl, _, hbx⟩; replace E := E.below hbx; clear hbx)
              (go_wp2_with fail; refine (E.e1.safev HF1 hT).mono ?_; rintro e wx ⟨rfl, _, hbx⟩; replace E := E.below hbx; clear hbx)
              (go_wp2_with fail; refine (E.e2.clockv HC1).mono ?_; rintro e w' ⟨rfl, rfl⟩)
              (go_wp2_with fail; refine (E.e1.clockv HC1).mono ?_; rintro e w' ⟨rfl, rfl⟩)
              go_wp2
              go_ret
              exact ⟨ret_bool (by simp), E.bel⟩
theorem copies_law (x : Int) (a : Option Addr) (n c : Nat) (at_ : Int) (w : World) (hT : Tab w) (hx : (Lit.int .u64 x).wf = true) (hl : ∃ l, RSl RAc 4 w a n c l) (hat : (Lit.int .i64 at_).wf = true) :
    Calls Tryd.prog 6 #[.int .u64 x, .slice a n c, .int .i64 at_] w fun e w' => e = .returned (.bool true) ∧ Below w.heap.size w w' := by
  obtain ⟨l, hl⟩ := hl
  obtain ⟨h1, h2⟩ := hl.acs
  obtain ⟨x, rfl, gx⟩ := u64n hx
  exact copies_any x gx a n c _ h2 at_ w h1 hT
end Go.Proofs.YtmhckkcppmfjpaaDoor
