/- text: what the reference takes, beside what is parsed (plain) -/
import Derived.Test.YtpkknhhohbobaaaGreatDoorTxtRcQ
namespace Go.Proofs.YtpkknhhohbobaaaGreatDoor
set_option linter.unusedSimpArgs false
set_option linter.unusedVariables false
open Go.RowKit
theorem refV_valN (u : W8) {m : Nat} (hm : m ≤ 18446744073709551615) : valN u m = if (refV u m).2 = true then some (refV u m).1 else none := by
  cases h : valN u m with
  | some v => rw [refV_some hm h]; rfl
  | none =>
    have := refV_none hm h
    rw [this]
    rfl
theorem takeN_ref (ws : List W8) {m : Nat} (hm : m ≤ 18446744073709551615) : takeN m ws = if okR ws m true = true then some ((refV (ws.headD []) m).1, ws.tail) else none := by
  cases ws with
  | nil => rfl
  | cons u r =>
    rw [takeN_cons, refV_valN u hm]
    have h1 : okR (u :: r) m true = (refV u m).2 := rfl
    rw [h1]
    cases (refV u m).2 <;> rfl
theorem okR_and (ws : List W8) (m : Nat) (q : Bool) : okR ws m q = (q && okR ws m true) := by
  unfold okR okN
  cases q <;> simp
theorem okN_and (ws : List W8) (q : Bool) : okN ws q = (q && okN ws true) := by
  unfold okN
  cases q <;> simp
theorem twoR_twoN (u : W8) {f s : Nat} (hf : f ≤ 18446744073709551615) (hs : s ≤ 18446744073709551615) : twoN u f s = if (twoR u f s).2 = true then some (twoR u f s).1 else none := by
  by_cases hl : ∃ x y, pcs 46 u = [x, y]
  · obtain ⟨x, y, h⟩ := hl
    have h1 : twoN u f s = bothN (valN x f) (valN y s) := by unfold twoN; rw [h]; rfl
    have h2 : twoR u f s = (((refV x f).1, (refV y s).1), (refV x f).2 && (refV y s).2) := by unfold twoR; rw [h]
    rw [h1, h2, refV_valN x hf, refV_valN y hs]
    cases (refV x f).2 <;> cases (refV y s).2 <;> rfl
  · have h1 : twoN u f s = none := by
      unfold twoN
      split
      · rename_i x y h; exact absurd ⟨x, y, h⟩ hl
      · rfl
    have h2 : twoR u f s = ((0, 0), false) := by
      unfold twoR
      split
      · rename_i x y h; exact absurd ⟨x, y, h⟩ hl
      · rfl
    rw [h1, h2]
    rfl
theorem takeT_ref (ws : List W8) {f s : Nat} (hf : f ≤ 18446744073709551615) (hs : s ≤ 18446744073709551615) : takeT f s ws = if ok2 ws f s true = true then some ((twoR (ws.headD []) f s).1, ws.tail) else none := by
  cases ws with
  | nil => rfl
  | cons u r =>
    rw [takeT_cons, twoR_twoN u hf hs]
    have h1 : ok2 (u :: r) f s true = (twoR u f s).2 := rfl
    rw [h1]
    cases (twoR u f s).2 <;> rfl
theorem ok2_and (ws : List W8) (f s : Nat) (q : Bool) : ok2 ws f s q = (q && ok2 ws f s true) := by
  unfold ok2 okN
  cases q <;> simp
theorem takeB_ref (ws : List W8) : takeB ws = if (okN ws true && (bytR (ws.headD [])).2) = true then some ((bytR (ws.headD [])).1, ws.tail) else none := by
  cases ws with
  | nil => rfl
  | cons u r =>
    rw [takeB_cons, bytR_unhex u]
    have h1 : (okN (u :: r) true && (bytR u).2) = (bytR u).2 := rfl
    show _ = if (okN (u :: r) true && (bytR u).2) = true then some ((bytR u).1, r) else none
    rw [h1]
    cases (bytR u).2 <;> rfl
theorem twoR_le {u : W8} {f s : Nat} (hf : f ≤ 18446744073709551615) (hs : s ≤ 18446744073709551615) (h : (twoR u f s).2 = true) : (twoR u f s).1.1 ≤ f ∧ (twoR u f s).1.2 ≤ s := by
  have := twoR_twoN u hf hs
  rw [if_pos h] at this
  exact twoN_le this
theorem refV_le {u : W8} {m : Nat} (hm : m ≤ 18446744073709551615) (h : (refV u m).2 = true) : (refV u m).1 ≤ m := by
  have := refV_valN u hm
  rw [if_pos h] at this
  exact (valN_some.1 this).2
theorem ok2_two {ws : List W8} {f s : Nat} {q : Bool} (h : ok2 ws f s q = true) : q = true ∧ ok2 ws f s true = true ∧ (twoR (ws.headD []) f s).2 = true := by
  unfold ok2 okN at h ⊢
  simp only [Bool.and_eq_true] at h ⊢
  exact ⟨h.1.1, ⟨⟨by first | rfl | trivial, h.1.2⟩, h.2⟩, h.2⟩
theorem okR_ref {ws : List W8} {m : Nat} {q : Bool} (h : okR ws m q = true) : q = true ∧ okR ws m true = true ∧ (refV (ws.headD []) m).2 = true := by
  unfold okR okN at h ⊢
  simp only [Bool.and_eq_true] at h ⊢
  exact ⟨h.1.1, ⟨⟨by first | rfl | trivial, h.1.2⟩, h.2⟩, h.2⟩
/-- What the reading of a field answers. -/
def PFd (f : Lt) (x : TEv) (ws : List W8) (b : Nat) (e : Ending) (w' : World) : Prop := ∃ (y : TEv) (ea : Option Addr) (en ec : Nat) (fa : Option Addr) (fn fc : Nat) (ws' : List W8) (ok : Bool),
  e = .returned (.agg (evC y ea en ec fa fn fc)) ∧ TkT w' b ws' ok ∧ ok = (fieldT f x ws).isSome ∧ (ok = true → fieldT f x ws = some (y, ws') ∧ Rd w' 1 ea en ec (c32 y.m.deps) ∧ Rd w' 2 fa fn fc (y.names.flatMap nmC))
end Go.Proofs.YtpkknhhohbobaaaGreatDoor
