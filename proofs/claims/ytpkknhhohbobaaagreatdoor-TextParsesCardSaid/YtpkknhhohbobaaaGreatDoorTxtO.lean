/- text: Few -/
import Derived.Test.YtpkknhhohbobaaaGreatDoorTxtN
namespace Go.Proofs.YtpkknhhohbobaaaGreatDoor
set_option linter.unusedSimpArgs false
set_option linter.unusedVariables false
open Go.RowKit Go.Sort
/-- An event as it lies: with its rows. -/
structure Er where
  x : TEv
  da : Option Addr
  dn : Nat
  dc : Nat
  na : Option Addr
  nn : Nat
  nc : Nat
def erC (e : Er) : List Value := (evC e.x e.da e.dn e.dc e.na e.nn e.nc).toList
theorem erC_len (e : Er) : (erC e).length = 19 := rfl
theorem erC_at {w : World} {g off n c : Nat} {l : List Er} (h : Rd w 19 (some ⟨g, off, none⟩) n c (l.flatMap erC)) (k : Nat) (hk : k < l.length) (j : Nat) (hj : j < 19) (v : Value) (hv : (erC l[k])[j]? = some v) : w.cell? ⟨g, off + k * 19 + j, none⟩ = some v := by
  have h0 := flatMap_get erC_len l k j hj
  rw [List.getElem?_eq_getElem hk, Option.bind_some, hv] at h0
  have := h.at h0
  rwa [← Nat.add_assoc] at this
set_option maxHeartbeats 3200000 in
set_option maxRecDepth 100000 in
theorem few_any (a : Option Addr) (n c : Nat) (l : List Er) (w : World) (hr : Rd w 19 a n c (l.flatMap erC)) :
    Calls Tryz.prog 9 #[.slice a n c] w fun e w' => (e = .returned (.bool true) ∨ e = .returned (.bool false)) ∧ Below w.heap.size w w' := by
  have hl : Hid (l.length = n) := Lib.hid (by have := hr.length_eq; rw [flatMap_len erC_len] at this; omega)
  have hmx := hr.le_max
  have hr0 := Lib.hid hr
  clear hr
  go_enter Tryz.func9, Tryz.ntmps9
  go_wp2
  go_loopw [3, 4] (fun s i wr => ∃ (k m : Nat), k ≤ n ∧ i = .int .i64 k ∧ s = .int .i64 m ∧ m ≤ 20000 ∧ Hid (Below w.heap.size w wr)) (fun _ i _ => n - (intOf i).toNat)
  case atStart => exact ⟨0, 0, Nat.zero_le _, rfl, rfl, by decide, Lib.hid (Below.refl _ _)⟩
  case round =>
    obtain ⟨k, m, hk, rfl, rfl, hm, hb⟩ := hrel
    obtain ⟨w1, rfl⟩ : ∃ z, z = wr := ⟨_, rfl⟩
    by_cases hkn : k < n
    · have hkI : (k : Int) < n := by omega
      have hkl : k < l.length := by rw [hl.out]; exact hkn
      obtain ⟨g, off, rfl, _⟩ := hr0.out.addr (by omega)
      have hr1 := hr0.out.below hb.out (Nat.le_refl _)
      have c1 := erC_at hr1 k hkl 11 (by decide) _ rfl
      have c2 := erC_at hr1 k hkl 12 (by decide) _ rfl
      have c3 := erC_at hr1 k hkl 17 (by decide) _ rfl
      have c4 := erC_at hr1 k hkl 18 (by decide) _ rfl
      generalize l[k] = y at *
      obtain ⟨x, da, dn, dc, na, nn, nc⟩ := y
      simp only at c1 c2 c3 c4
      generalize mkB x.m.pay = P at *
      generalize mkB x.state = S at *
      clear hr1
      have hmI : (m : Int) ≤ 20000 := by omega
      replace hm := Lib.hid hm
      go_wp2_with fail
      go_quiet (fail)
      have hbq := Lib.hid (belN hb.out nq)
      generalize w1.drewN nq = w2 at *
      obtain ⟨z, hz⟩ : ∃ z : Nat, (m : Int) + min (P.size : Int) 20000 / 8 + min (dn : Int) 20000 / 8 + min (nn : Int) 20000 / 8 + min (S.size : Int) 20000 / 16 = z := ⟨((m : Int) + min (P.size : Int) 20000 / 8 + min (dn : Int) 20000 / 8 + min (nn : Int) 20000 / 8 + min (S.size : Int) 20000 / 16).toNat, by omega⟩
      rw [hz]
      clear hz c1 c2 c3 c4 hmI hm
      by_cases h5 : 500 ≤ k
      · have h5I : (500 : Int) ≤ k := by omega
        clear h5
        go_wp2
        all_goals
          go_ret
          exact ⟨.inr rfl, hbq.out⟩
      · have h5I : ¬ (500 : Int) ≤ k := by omega
        clear h5
        by_cases h6 : z ≤ 20000
        · have h6I : ¬ (20000 : Int) < z := by omega
          replace h6 := Lib.hid h6
          go_wp2
          go_roundw
          case rel => exact ⟨k + 1, z, by omega, by go_num, by go_num, h6.out, hbq⟩
          case measure => simp [intOf]; omega
        · have h6I : (20000 : Int) < z := by omega
          clear h6
          go_wp2
          go_ret
          exact ⟨.inr rfl, hbq.out⟩
    · have hkI : ¬ (k : Int) < n := by omega
      go_wp2
      go_ret
      exact ⟨.inl rfl, hb.out⟩
end Go.Proofs.YtpkknhhohbobaaaGreatDoor
