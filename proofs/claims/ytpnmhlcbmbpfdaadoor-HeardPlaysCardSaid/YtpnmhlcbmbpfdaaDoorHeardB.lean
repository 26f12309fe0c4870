/- the walks of the ear's other methods: Forget, Reach, Of, Epoch, Strange -/
import Derived.Test.YtpnmhlcbmbpfdaaDoorHeardA
import Derived.Deep.MidRow
namespace Go.Proofs.YtpnmhlcbmbpfdaaDoor
open Go.RowKit Go.Sort

theorem memN_get {x k : Nat} (h : k < (memN x).length) : (memN x)[k] < 64 := memN_lt x _ (List.getElem_mem h)
theorem memI_get {x k : Nat} (h : k < (memI x).length) : (memI x)[k] = (((memN x)[k]'(by rw [memI, List.length_map] at h; exact h) : Nat) : Int) := by simp [memI]
theorem own_ge {w : World} {base n c : Nat} {e : TypeId} {a : Option Addr} {xs : List Value} (h : w.ownsRow base e 1 (.slice a n c) n xs) : ∀ g off, a = some ⟨g, off, none⟩ → base ≤ g := by
  intro g off e
  rcases h.2 with ⟨hv, _⟩ | ⟨g', cap, cur, hv, hb, _⟩
  · simp at hv; rw [e] at hv; simp at hv
  · simp at hv; rw [e] at hv; simp at hv; omega
set_option maxHeartbeats 1600000 in
set_option maxRecDepth 100000 in
theorem forget_any (s : ES) (hs : s.Ok) (x : Nat) (hx : x < 18446744073709551616) (b : Nat) (w : World) (h : EarAt w b s) (hT : Tab w) :
    Calls Tryd.prog 13 #[.pointer (some ⟨b, 0, none⟩), .int .u64 x] w fun e w' => e = .returned (.tuple #[]) ∧ EarAt w' b (s.forget x) ∧ Kp b w w' := by
  have c3 := h.c3
  have hbl := h.lt
  have HF := Lib.hid (show s.forget x = forgL s (memN (x &&& s.oth)) from rfl)
  have HB := Lib.hid (fun w => both_any x s.oth hx hs.oth w)
  have hy := and_lt x s.oth hx
  generalize x &&& s.oth = y at *
  go_enter Tryd.func13, Tryd.ntmps13
  go_wp2_with fail
  refine (HB.out _).mono ?_
  rintro e w' ⟨rfl, rfl⟩
  go_wp2_with fail
  refine (list_any y _ hy hT).mono ?_
  rintro e w1 ⟨v, rfl, hown, hb1⟩
  obtain ⟨a, c, rfl, hr⟩ := Rd.own hown
  have hge := own_ge hown
  have hln := hr.intLen
  have hc64 := cardN_le y
  have h1 := h.below hb1 hbl
  have hk1 := Kp.ofBelow (b := b) hb1
  clear hown hb1
  go_wp2
  go_loopw [5, 14] (fun _ i wr => ∃ (k : Nat) (t : ES), k ≤ cardN y ∧ i = .int .i64 k ∧ Hid (t = forgL s ((memN y).take k)) ∧ EarAt wr b t ∧ Kp b w wr ∧ Rd wr 1 a (cardN y) c ((memI y).map (Value.int .i64))) (fun _ i _ => cardN y - (intOf i).toNat)
  case atStart => exact ⟨0, s, Nat.zero_le _, rfl, rfl, h1, hk1, hr⟩
  case round =>
    clear hr h1 hk1
    obtain ⟨k, t, hk, rfl, HT, h2, hkp, hr⟩ := hrel
    by_cases hlt : k < cardN y
    · have hkl : k < (memI y).length := by rw [hln]; exact hlt
      have hkn : k < (memN y).length := by rw [memN_len]; exact hlt
      obtain ⟨bl, off, rfl, hbl2⟩ := hr.addr (by omega)
      have hgb : bl ≠ b := by have := hge bl off rfl; omega
      have hc := hr.at (j := k) (u := .int .i64 ((memN y)[k] : Nat)) (by rw [List.getElem?_map, List.getElem?_eq_getElem hkl, memI_get]; rfl)
      have hp := memN_get hkn
      have hsn := Lib.hid (forgL_snoc s ((memN y).take k) (memN y)[k])
      rw [← HT.out, List.take_append_getElem] at hsn
      generalize (memN y)[k] = p at *
      have hpI : (p : Int) < 64 := by omega
      obtain ⟨d0, d1, d2, d3, d4, d5, _, _⟩ := h2.en p hp
      have f0 := h2.fz (4 + p * 8)
      have f1 := h2.fz (4 + p * 8 + 1)
      have f2 := h2.fz (4 + p * 8 + 2)
      have f3 := h2.fz (4 + p * 8 + 3)
      have f4 := h2.fz (4 + p * 8 + 4)
      have f5 := h2.fz (4 + p * 8 + 5)
      have H6 := Lib.hid (h2.six p hp .zero false)
      have K6 := (Kp.refl b wr).six ⟨b, 4 + p * 8 + 5, none⟩ ⟨b, 4 + p * 8, none⟩ ⟨b, 4 + p * 8 + 1, none⟩ ⟨b, 4 + p * 8 + 2, none⟩ ⟨b, 4 + p * 8 + 3, none⟩ ⟨b, 4 + p * 8 + 4, none⟩ (.bool false) (.int .u64 0) (.int .i64 0) (.int .u64 0) (.int .i64 0) (.int .u64 0) rfl rfl rfl rfl rfl rfl
      have R6 := Lib.hid (K6.drew.rd hr (fun g o e => by cases e; exact hgb))
      have K6 := Lib.hid K6.drew
      have H6 : Hid (EarAt _ b _) := H6.out.drew
      clear hr
      go_wp2
      go_region
      go_wp2
      go_roundw
      case rel => exact ⟨k + 1, _, by omega, by go_num, hsn.out.symm, H6.out, hkp.trans K6.out, R6.out⟩
      case measure => simp [intOf]; omega
    · go_wp2
      go_end0
      refine ⟨rfl, ?_, hkp⟩
      rw [HF.out, ← show (memN y).take k = memN y from List.take_of_length_le (by rw [memN_len]; omega), ← HT.out]
      exact h2
set_option maxHeartbeats 1600000 in
set_option maxRecDepth 100000 in
theorem reach_any (s : ES) (hs : s.Ok) (b : Nat) (w : World) (h : EarAt w b s) (hT : Tab w) :
    Calls Tryd.prog 16 #[.pointer (some ⟨b, 0, none⟩)] w fun e w' => e = .returned (.int .u64 s.reach) ∧ Below w.heap.size w w' := by
  have hpos := hT.1
  have hbl := h.lt
  have hoth := hs.oth
  have hnow := hs.now
  have HF := Lib.hid (show s.reach = reachL s (memN s.oth) from rfl)
  have c0 := h.c0
  have HO := Lib.hid (fun W => of_any 1 1 (some ⟨w.heap.size, 0, none⟩) [s.me] W (by decide))
  rw [show withN 0 [s.me] = bitN s.me from by simp [withN]] at HO
  have hbm := bitN_lt s.me
  go_enter Tryd.func16, Tryd.ntmps16
  go_wp2_with fail
  refine (HO.out _ (Rd.one rfl)).mono ?_
  rintro e w' ⟨rfl, rfl⟩
  have hb1 : Below w.heap.size w (w.alloc (.cells #[.int .i64 s.me] 3)) := (Below.refl _ _).alloc (Nat.le_refl _) _
  have h1 := h.below hb1 hbl
  have hT1 := hT.below hb1 hpos
  clear c0
  generalize w.alloc _ = w1 at *
  have c3 := h1.c3
  go_wp2_with fail
  refine (list_any s.oth _ hoth hT1).mono ?_
  rintro e w2 ⟨v, rfl, hown, hb2⟩
  obtain ⟨a, c, rfl, hr⟩ := Rd.own hown
  have hln := hr.intLen
  have hc64 := cardN_le s.oth
  have h2 := h1.below hb2 h1.lt
  replace hb1 := belS hb1 hb2
  clear hown h1 hT1 c3
  go_wp2
  go_loopw [3, 5, 6, 19] (fun o _ _ i wr => ∃ (k z : Nat), k ≤ cardN s.oth ∧ i = .int .i64 k ∧ o = .int .u64 z ∧ z < 18446744073709551616 ∧ Hid (z = reachL s ((memN s.oth).take k)) ∧ Below w2.heap.size w2 wr) (fun _ _ _ i _ => cardN s.oth - (intOf i).toNat)
  case atStart => exact ⟨0, bitN s.me, Nat.zero_le _, rfl, rfl, hbm, rfl, Below.refl _ _⟩
  case round =>
    obtain ⟨k, z, hk, rfl, rfl, hz1, hz, hbr⟩ := hrel
    by_cases hlt : k < cardN s.oth
    · have hkl : k < (memI s.oth).length := by rw [hln]; exact hlt
      have hkn : k < (memN s.oth).length := by rw [memN_len]; exact hlt
      have hrr := hr.below hbr (Nat.le_refl _)
      have h3 := h2.below hbr h2.lt
      obtain ⟨bl, off, rfl, hbl2⟩ := hrr.addr (by omega)
      have hc := hrr.at (j := k) (u := .int .i64 ((memN s.oth)[k] : Nat)) (by rw [List.getElem?_map, List.getElem?_eq_getElem hkl, memI_get]; rfl)
      have hp := memN_get hkn
      have hsn := Lib.hid (reachL_snoc s ((memN s.oth).take k) (memN s.oth)[k])
      rw [← hz.out, List.take_append_getElem] at hsn
      generalize (memN s.oth)[k] = p at *
      have hpI : (p : Int) < 64 := by omega
      obtain ⟨d0, d1, d2, d3, d4, d5, d6, d7⟩ := h3.en p hp
      have c1 := h3.c1
      have c2 := h3.c2
      have hat := hs.at_ p
      have hla := Lib.hid (show s.lately p = ((s.l p).ever && decide ((s.now : Int) - (s.l p).at_ ≤ s.timeout)) from rfl)
      clear hrr
      go_wp2
      have hA := BlkAt.new wr 63 (enC (s.l p)).toArray
      have hbb : Below wr.heap.size wr (wr.alloc (.cells (enC (s.l p)).toArray 63)) := (Below.refl _ _).alloc (Nat.le_refl _) _
      replace h3 := h3.below hbb h3.lt
      replace hbr := belS hbr hbb
      clear c1 c2 d0 d1 d2 d3 d4 d5 d6 d7 hc hbb
      have c1 := h3.c1
      have c2 := h3.c2
      change (Code.wp _ _ _ _ (wr.alloc (.cells (enC (s.l p)).toArray 63)))
      generalize wr.alloc _ = w5 at *
      generalize wr.heap.size = xb at *
      have a6 : w5.cell? ⟨xb, 6, none⟩ = some (.bool (s.l p).ever) := hA.cell rfl
      have a7 : w5.cell? ⟨xb, 7, none⟩ = some (.int .i64 (s.l p).at_) := hA.cell rfl
      cases he : (s.l p).ever with
      | false =>
        rw [he] at a6 hla
        have HZ := Lib.hid (hsn.out.trans (if_neg (by rw [hla.out]; simp)))
        clear hsn he
        go_quiet (fail)
        go_wp2
        go_roundw
        case rel => exact ⟨k + 1, z, by omega, by go_num, rfl, hz1, HZ.out.symm, belN hbr _⟩
        case measure => simp [intOf]; omega
      | true =>
        rw [he] at a6 hla
        cases hd : decide ((s.now : Int) - (s.l p).at_ ≤ s.timeout) with
        | false =>
          rw [hd] at hla
          have HZ := Lib.hid (hsn.out.trans (if_neg (by rw [hla.out]; simp)))
          clear hsn he
          go_quiet (fail)
          go_wp2
          go_roundw
          case rel => exact ⟨k + 1, z, by omega, by go_num, rfl, hz1, HZ.out.symm, belN hbr _⟩
          case measure => simp [intOf]; omega
        | true =>
          rw [hd] at hla
          have HZ := Lib.hid (hsn.out.trans (if_pos hla.out))
          clear hsn he
          go_quiet (fail)
          go_wp2_with (first | (go_at_call 30; refine (with_any z 1 1 _ [(p : Int)] _ hz1 (by decide) (Rd.one rfl)).mono ?_; rintro e w' ⟨rfl, rfl⟩))
          go_roundw
          case rel => exact ⟨k + 1, z ||| bitN p, by omega, by go_num, rfl, or_lt hz1 (bitN_lt _), HZ.out.symm, (belN hbr _).alloc (by simp; have := hbr.size; omega) _⟩
          case measure => simp [intOf]; omega
    · go_wp2
      go_ret
      refine ⟨ret_int ?_, hb1.trans (hbr.mono hb1.size)⟩
      rw [hz.out, HF.out, List.take_of_length_le (by rw [memN_len]; omega)]
end Go.Proofs.YtpnmhlcbmbpfdaaDoor
