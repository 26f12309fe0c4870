/- log: the walk of the writer's record -/
import Derived.Test.YtdfnpaaejjediaaLogD
namespace Go.Proofs.Ytdfnpaaejjediaa
open Go.RowKit

/-- What the writer's record leaves. -/
def RecPost (B b : Nat) (l : List Int) (r : Rc) (w : World) (e : Ending) (w' : World) : Prop := (recE r = 0 ∧ e = .returned (.tuple #[]) ∧ WrAt B w' b (l ++ recB r) ∨ recE r ≠ 0 ∧ e = pan (recE r)) ∧ Kp b w w'
theorem recE_last {r : Rc} (h : r.last.ok = false) : recE r = 1 := by unfold recE; rw [if_pos h]
theorem recE_long {r : Rc} (h : r.last.ok = true) (hl : 32 < r.pend.length) : recE r = 3 := by unfold recE; rw [if_neg (by rw [h]; decide), if_pos hl]
theorem recE_bad {r : Rc} (h : r.last.ok = true) (hl : r.pend.length ≤ 32) (ha : r.pend.all Vw.ok = false) : recE r = 1 := by unfold recE; rw [if_neg (by rw [h]; decide), if_neg (by omega), if_neg (by rw [ha]; decide)]
theorem recE_ok {r : Rc} (h : r.last.ok = true) (hl : r.pend.length ≤ 32) (ha : r.pend.all Vw.ok = true) : recE r = 0 := by unfold recE; rw [if_neg (by rw [h]; decide), if_neg (by omega), if_pos ha]
theorem rcells {W : World} {g : Nat} {t : TypeId} {v : Vw} {x : Value} (h : BlkAt W g t #[.int .u64 v.num, .int .u64 v.ce, .int .i64 v.cr, .int .u64 v.mem, x]) : W.cell? ⟨g, 0, none⟩ = some (.int .u64 v.num) ∧ W.cell? ⟨g, 1, none⟩ = some (.int .u64 v.ce) ∧ W.cell? ⟨g, 2, none⟩ = some (.int .i64 v.cr) ∧ W.cell? ⟨g, 3, none⟩ = some (.int .u64 v.mem) ∧ W.cell? ⟨g, 4, none⟩ = some x := ⟨h.cell rfl, h.cell rfl, h.cell rfl, h.cell rfl, h.cell rfl⟩
theorem Kp.rd0 {b : Nat} {x y : World} {size n c : Nat} {a : Option Addr} {xs : List Value} (k : Kp b x y) (h : Rd x size a n c xs) (hb : n ≠ 0 → ∀ g off, a = some ⟨g, off, none⟩ → g ≠ b) : Rd y size a n c xs := by
  by_cases h0 : n = 0
  · exact ⟨h.1, .inl h0⟩
  · exact k.rd h (hb h0)
section
variable {B : Nat} {w w' : World} {b : Nat} {l : List Int}
set_option maxHeartbeats 3200000 in
set_option maxRecDepth 100000 in
theorem wrec_any (r : Rc) (pa : Option Addr) (pn pc : Nat) (hw : r.Wf) (hp : RdV w pa pn pc r.pend) (hpb : pn ≠ 0 → ∀ g off, pa = some ⟨g, off, none⟩ → g ≠ b) (h : WrAt B w b l) (hl : l.length ≤ 80000) :
    Calls Try.prog 26 #[.pointer (some ⟨b, 0, none⟩), .agg #[.int .u64 r.last.num, .int .u64 r.last.ce, .int .i64 r.last.cr, .int .u64 r.last.mem, .slice pa pn pc]] w (RecPost B b l r w) := by
  have hb := h.lt
  have hln := Lib.hid hp.len
  have hmx := Rd.le_max hp
  unfold maxLen at hmx
  have hne : w.heap.size ≠ b := by omega
  have hbx : Below w.heap.size w (w.alloc (.cells #[.int .u64 r.last.num, .int .u64 r.last.ce, .int .i64 r.last.cr, .int .u64 r.last.mem, .slice pa pn pc] 30)) := (Below.refl _ _).alloc (Nat.le_refl _) _
  have B1 := BlkAt.new w 30 #[.int .u64 r.last.num, .int .u64 r.last.ce, .int .i64 r.last.cr, .int .u64 r.last.mem, .slice pa pn pc]
  have h1 := h.below hbx
  have hp1 := hp.below hbx (Nat.le_refl _)
  have kx := Kp.ofBelow (b := b) hbx
  obtain ⟨c0, c1, c2, c3, c4⟩ := rcells B1
  clear h hp hbx
  cases ho : r.last.ok with
  | false =>
    have HE := Lib.hid (recE_last ho)
    have HV := Lib.hid (fun W => wview_no (w := W) (b := b) r.last ho)
    clear ho
    go_enter Try.func26, Try.ntmps26
    go_wp2_with fail
    refine (HV.out _).mono ?_
    rintro e w' ⟨rfl, hb2⟩
    exact ⟨rfl, .inr ⟨by rw [HE.out]; decide, by rw [HE.out]; rfl⟩, kx.trans (Kp.ofBelow hb2)⟩
  | true =>
    have HV := Lib.hid (fun W l (h : WrAt B W b l) (hl : l.length ≤ 90000) => wview_yes (w := W) (b := b) r.last hw.1 ho h hl)
    by_cases hlong : 32 < pn
    · have HE := Lib.hid (recE_long ho (by rw [hln.out]; exact hlong))
      have hlI : (32 : Int) < pn := by omega
      clear ho
      go_enter Try.func26, Try.ntmps26
      go_wp2_with fail
      generalize w.alloc _ = wa at *
      refine (HV.out _ _ h1 (by omega)).mono ?_
      rintro e w2 ⟨rfl, h2, k2⟩
      have B2 := k2.blk B1 hne
      clear c0 c1 c2 c3 c4
      obtain ⟨c0, c1, c2, c3, c4⟩ := rcells B2
      go_wp2_with fail
      refine (bad_t (by first | (simp; done) | (simp; omega)) 3 _).mono ?_
      rintro e w' ⟨rfl, rfl⟩
      exact ⟨rfl, .inr ⟨by rw [HE.out]; decide, by rw [HE.out]; rfl⟩, kx.trans k2⟩
    · have hlI : (pn : Int) ≤ 32 := by omega
      have HEok := Lib.hid (recE_ok ho (by rw [hln.out]; omega))
      have HEbad := Lib.hid (recE_bad ho (by rw [hln.out]; omega))
      have HB := Lib.hid (show recB r = vwB r.last ++ (beL r.pend.length 1 1 ++ r.pend.flatMap vwB) from rfl)
      rw [hln.out] at HB
      have HWf := Lib.hid hw.2
      clear ho hw
      go_enter Try.func26, Try.ntmps26
      go_wp2_with fail
      generalize w.alloc _ = wa at *
      refine (HV.out _ _ h1 (by omega)).mono ?_
      rintro e w2 ⟨rfl, h2, k2⟩
      have B2 := k2.blk B1 hne
      clear c0 c1 c2 c3 c4
      obtain ⟨c0, c1, c2, c3, c4⟩ := rcells B2
      go_wp2_with fail
      refine (bad_f (by first | (simp; done) | (simp; omega)) 3 _).mono ?_
      rintro e w' ⟨rfl, rfl⟩
      (go_wp2_with fail; refine (wnum1 _ h2 (by first | omega | (simp only [List.length_append, beL_len, vwB_len]; omega)) (by omega) (by omega)).mono ?_; rintro e w3 ⟨rfl, hw3, kw3⟩)
      have B3 := kw3.blk B2 hne
      clear c0 c1 c2 c3 c4
      obtain ⟨c0, c1, c2, c3, c4⟩ := rcells B3
      have hp3 : RdV w3 pa pn pc r.pend := kw3.rd0 (k2.rd0 hp1 hpb) hpb
      have k3 := (kx.trans k2).trans kw3
      clear B1 B2 h1 h2 hp1 kx k2 kw3
      generalize r.pend = pend at *
      go_wp2
      go_loopw [24] (fun i wr => ∃ k : Nat, k ≤ pn ∧ i = .int .i64 k ∧ Hid ((pend.take k).all Vw.ok = true) ∧ WrAt B wr b (l ++ (vwB r.last ++ (beL pn 1 1 ++ (pend.take k).flatMap vwB))) ∧ Kp b w3 wr) (fun i _ => pn - (intOf i).toNat)
      case atStart => exact ⟨0, Nat.zero_le _, rfl, rfl, by simpa only [List.take_zero, List.flatMap_nil, List.append_nil, List.append_assoc] using hw3, Kp.refl _ _⟩
      case round =>
        clear c0 c1 c2 c3 c4 B3
        obtain ⟨k, hk, rfl, hok, hwr, hkp⟩ := hrel
        by_cases hlt : k < pn
        · have hkl : k < pend.length := by rw [hln.out]; exact hlt
          have hkI : (k : Int) < pn := by omega
          have hpr : RdV wr pa pn pc pend := hkp.rd0 hp3 hpb
          obtain ⟨bp, off, rfl, hbp⟩ := Rd.addr hpr (by omega)
          obtain ⟨c0, c1, c2, c3⟩ := hpr.at k hkl
          have hyw := HWf.out _ (List.getElem_mem hkl)
          have hts : pend.take (k + 1) = pend.take k ++ [pend[k]] := List.take_succ_eq_append_getElem hkl
          have hbl := hwr.lt
          cases ho : pend[k].ok with
          | false =>
            have HA := Lib.hid (show pend.all Vw.ok = false from by
              rw [Bool.eq_false_iff]; intro h
              rw [List.all_eq_true.1 h _ (List.getElem_mem hkl)] at ho; cases ho)
            have HV2 := Lib.hid (fun W => wview_no (w := W) (b := b) pend[k] ho)
            clear ho hts hyw
            generalize pend[k] = y at *
            go_wp2_with fail
            refine (HV2.out _).mono ?_
            rintro e w' ⟨rfl, hb2⟩
            exact ⟨rfl, .inr ⟨by rw [HEbad.out HA.out]; decide, by rw [HEbad.out HA.out]; rfl⟩, k3.trans (hkp.trans ((Kp.ofBelow ((Below.refl _ _).alloc (Nat.le_refl _) _)).trans (Kp.ofBelow hb2)))⟩
          | true =>
            have HO := Lib.hid (show (pend.take (k + 1)).all Vw.ok = true from by rw [hts, List.all_append, hok.out]; simp [ho])
            have HT := Lib.hid (show (pend.take (k + 1)).flatMap vwB = (pend.take k).flatMap vwB ++ vwB pend[k] from by rw [hts, List.flatMap_append]; simp)
            have HV2 := Lib.hid (fun W l (h : WrAt B W b l) (hl : l.length ≤ 90000) => wview_yes (w := W) (b := b) pend[k] hyw ho h hl)
            have hlen : (l ++ (vwB r.last ++ (beL pn 1 1 ++ (pend.take k).flatMap vwB))).length ≤ 90000 := by
              simp only [List.length_append, vwB_len, beL_len, flatB_len, List.length_take]; omega
            clear ho hts hyw
            generalize pend[k] = y at *
            generalize (pend.take k).flatMap vwB = Z at *
            have hbA : Below wr.heap.size wr (wr.alloc (.cells #[.int .u64 y.num, .int .u64 y.ce, .int .i64 y.cr, .int .u64 y.mem] 27)) := (Below.refl _ _).alloc (Nat.le_refl _) _
            have hwA := hwr.below hbA
            have kA := hkp.trans (Kp.ofBelow (b := b) hbA)
            go_wp2_with fail
            generalize wr.alloc _ = wA at *
            refine (HV2.out _ _ hwA hlen).mono ?_
            rintro e w5 ⟨rfl, h5, k5⟩
            have h6 : WrAt B w5 b (l ++ (vwB r.last ++ (beL pn 1 1 ++ (pend.take (k + 1)).flatMap vwB))) := by rw [HT.out]; simpa only [List.append_assoc] using h5
            have k6 := kA.trans k5
            clear h5 k5 kA hwA hbA hlen hwr hkp
            go_wp2
            go_roundw
            case rel => exact ⟨k + 1, by omega, by go_num, HO, h6, k6⟩
            case measure => simp [intOf]; omega
        · obtain rfl : k = pn := by omega
          have ht : pend.take k = pend := List.take_of_length_le (by rw [hln.out]; exact Nat.le_refl _)
          rw [ht] at hok hwr
          clear ht
          go_wp2
          go_end0
          exact ⟨.inl ⟨HEok.out hok.out, rfl, by rw [HB.out]; exact hwr⟩, k3.trans hkp⟩
end
end Go.Proofs.Ytdfnpaaejjediaa
