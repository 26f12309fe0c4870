/- text: value, the reader's word -/
import Derived.Test.YtpkknhhohbobaaaGreatDoorTxtO
namespace Go.Proofs.YtpkknhhohbobaaaGreatDoor
set_option linter.unusedSimpArgs false
set_option linter.unusedVariables false
open Go.RowKit Go.Sort
theorem below_bytes (w : World) (t : TypeId) (s : ByteArray) : Below w.heap.size w (Lib.bytesWorld w t s) := ⟨rfl, rfl, rfl, by rw [Lib.bytesWorld_size]; omega, fun k hk => Lib.bytesWorld_at_old w t s k hk⟩
/-- What a number's reading answers. -/
def PV (o : Option Nat) (e : Ending) : Prop := match o with
  | some v => e = .returned (.int .u64 (v : Int))
  | none => e = pan 4
theorem mkB_toList (s : W8) : (mkB s).toList = s := by rw [ByteArray.toList_eq]; exact (congrArg _ rfl)
set_option maxHeartbeats 3200000 in
set_option maxRecDepth 100000 in
theorem value_any (s : W8) (most : Nat) (hm : most ≤ 18446744073709551615) (hs : s.length ≤ 281474976710656) (w : World) (hT : TL w) :
    Calls Tryz.prog 73 #[.string (mkB s), .int .u64 (most : Int)] w fun e w' => PV (valN s most) e ∧ Below w.heap.size w w' := by
  have hsz := mkB_size s
  have hdl : (mkB s).data.toList = s := rfl
  cases hP : Lib.parseUintB 64 s with
  | ok u =>
    have hv := valN_ok hm hP
    have hP1 := Lib.hid (Tryz.strconv_ParseUint_10_at64_ok (mkB s) (by omega) u (by rw [hdl]; exact hP) w)
    by_cases h1 : u ≤ most
    · have hN := Lib.hid (fun (W : World) (hb : Below w.heap.size w W) => num_any u (by omega) W (hT.on hb))
      have h1I : ¬ (most : Int) < u := by omega
      clear hT hdl hP
      go_enter Tryz.func73, Tryz.ntmps73
      go_wp2_with fail
      refine hP1.out.mono ?_
      rintro e w1 ⟨rfl, hw1⟩
      have hb : Below w.heap.size w w1 := by
        rcases hw1 with h | h
        · rw [h]; exact Below.refl _ _
        · rw [h]; exact below_bytes _ _ _
      have HN := Lib.hid (hN.out _ hb)
      have hbb := Lib.hid hb
      clear hP1 hb hw1 hN
      go_wp2_with fail
      refine HN.out.mono ?_
      rintro e w2 ⟨rfl, hb2⟩
      have hb3 := Lib.hid (belS hbb.out hb2)
      clear HN hbb hb2
      by_cases h2 : Lib.decDigits u = s
      · rw [if_pos ⟨h2, h1⟩] at hv
        replace hv := Lib.hid hv
        rw [h2]
        clear h1
        go_wp2_with fail
        refine (bad_f (by first | rfl | (simp; done) | (simp; omega)) 4 _).mono ?_
        rintro e w3 ⟨rfl, rfl⟩
        go_wp2
        go_ret
        exact ⟨by rw [hv.out]; rfl, hb3.out⟩
      · rw [if_neg (fun h => h2 h.1)] at hv
        replace hv := Lib.hid hv
        have hne : ¬ (mkB (Lib.decDigits u)).toList = (mkB s).toList := fun e => h2 (by rwa [mkB_toList, mkB_toList] at e)
        clear h1
        go_wp2_with fail
        refine (bad_t (by simp; exact .inr hne) 4 _).mono ?_
        rintro e w3 ⟨rfl, rfl⟩
        exact ⟨rfl, by rw [hv.out]; rfl, hb3.out⟩
    · have h1I : (most : Int) < u := by omega
      rw [if_neg (fun h => h1 h.2)] at hv
      replace hv := Lib.hid hv
      rw [hv.out]
      clear hT hdl hP h1
      go_enter Tryz.func73, Tryz.ntmps73
      go_wp2_with fail
      refine hP1.out.mono ?_
      rintro e w1 ⟨rfl, hw1⟩
      have hb : Below w.heap.size w w1 := by
        rcases hw1 with h | h
        · rw [h]; exact Below.refl _ _
        · rw [h]; exact below_bytes _ _ _
      have hbb := Lib.hid hb
      clear hP1 hb hw1
      go_wp2_with fail
      refine (bad_t (by first | rfl | (simp; done)) 4 _).mono ?_
      rintro e w2 ⟨rfl, rfl⟩
      exact ⟨rfl, rfl, hbb.out⟩
  | «syntax» =>
    have hv := Lib.hid (valN_bad (most := most) hm (fun v e => by rw [hP] at e; cases e))
    obtain ⟨tp, p, hsy⟩ := hT.syn
    have hP1 := Lib.hid (Tryz.strconv_ParseUint_10_at64_syntax_var (mkB s) (by omega) (by rw [hdl]; exact hP) tp p w hsy)
    rw [hv.out]
    clear hsy hP hT hdl
    go_enter Tryz.func73, Tryz.ntmps73
    go_wp2_with fail
    refine hP1.out.mono ?_
    rintro e w1 ⟨N, rfl, _, _, hb⟩
    have hbb := Lib.hid hb
    clear hP1 hb
    go_wp2_with fail
    refine (bad_t (by first | rfl | (simp; done)) 4 _).mono ?_
    rintro e w2 ⟨rfl, rfl⟩
    exact ⟨rfl, rfl, hbb.out⟩
  | range =>
    have hv := Lib.hid (valN_bad (most := most) hm (fun v e => by rw [hP] at e; cases e))
    obtain ⟨tp, p, hsy⟩ := hT.rng
    have hP1 := Lib.hid (Tryz.strconv_ParseUint_10_at64_range_var (mkB s) (by omega) (by rw [hdl]; exact hP) tp p w hsy)
    rw [hv.out]
    clear hsy hP hT hdl
    go_enter Tryz.func73, Tryz.ntmps73
    go_wp2_with fail
    refine hP1.out.mono ?_
    rintro e w1 ⟨N, rfl, _, _, hb⟩
    have hbb := Lib.hid hb
    clear hP1 hb
    go_wp2_with fail
    refine (bad_t (by first | rfl | (simp; done)) 4 _).mono ?_
    rintro e w2 ⟨rfl, rfl⟩
    exact ⟨rfl, rfl, hbb.out⟩
end Go.Proofs.YtpkknhhohbobaaaGreatDoor
