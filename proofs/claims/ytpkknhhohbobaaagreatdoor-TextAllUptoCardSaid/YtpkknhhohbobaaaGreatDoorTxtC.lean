/- text: what was printed is parsed, and back: plain laws -/
import Derived.Test.YtpkknhhohbobaaaGreatDoorTxtB
namespace Go.Proofs.YtpkknhhohbobaaaGreatDoor
set_option linter.unusedSimpArgs false
set_option linter.unusedVariables false
open Go.RowKit
theorem nib_hx : ∀ d : Fin 16, nib (hx d.val) = some d.val := by decide +kernel
theorem hx_nib_fin : ∀ c : Fin 256, ∀ d, nib (UInt8.ofNat c.val) = some d → hx d = UInt8.ofNat c.val ∧ d < 16 := by
  intro c d h
  have h1 : ∀ c : Fin 256, (match nib (UInt8.ofNat c.val) with | some d => decide (hx d = UInt8.ofNat c.val ∧ d < 16) | none => true) = true := by decide +kernel
  have h2 := h1 c
  rw [h] at h2
  exact of_decide_eq_true h2
theorem ofNat_self (c : UInt8) : UInt8.ofNat c.toNat = c := by simp
theorem hx_nib {c : UInt8} {d : Nat} (h : nib c = some d) : hx d = c ∧ d < 16 := by
  have := hx_nib_fin ⟨c.toNat, c.toNat_lt⟩ d (by rw [ofNat_self]; exact h)
  rwa [ofNat_self] at this
theorem unhex2_hex : ∀ s : W8, unhex2 (s.flatMap hx2) = some s
  | [] => rfl
  | b :: s => by
    have h1 : b.toNat / 16 < 16 := by have := b.toNat_lt; omega
    have h2 : b.toNat % 16 < 16 := by omega
    have h3 := nib_hx ⟨_, h1⟩
    have h4 := nib_hx ⟨_, h2⟩
    rw [List.flatMap_cons]
    show unhex2 (hx (b.toNat / 16) :: hx (b.toNat % 16) :: s.flatMap hx2) = _
    rw [unhex2, h3, h4, unhex2_hex s]
    show some (UInt8.ofNat (b.toNat / 16 * 16 + b.toNat % 16) :: s) = _
    rw [show b.toNat / 16 * 16 + b.toNat % 16 = b.toNat by omega, ofNat_self]
theorem hex_unhex2 : ∀ (w s : W8), unhex2 w = some s → w = s.flatMap hx2
  | [], s, h => by injection h with h; subst h; rfl
  | [_], s, h => by cases h
  | a :: b :: r, s, h => by
    unfold unhex2 at h
    cases ha : nib a with
    | none => rw [ha] at h; cases h
    | some x =>
      cases hb : nib b with
      | none => rw [ha, hb] at h; cases h
      | some y =>
        rw [ha, hb] at h
        cases hr : unhex2 r with
        | none => rw [hr] at h; cases h
        | some t =>
          rw [hr] at h
          injection h with h
          subst h
          obtain ⟨a1, a2⟩ := hx_nib ha
          obtain ⟨b1, b2⟩ := hx_nib hb
          rw [List.flatMap_cons, ← hex_unhex2 r t hr]
          show _ = hx ((UInt8.ofNat (x * 16 + y)).toNat / 16) :: hx ((UInt8.ofNat (x * 16 + y)).toNat % 16) :: r
          rw [ofNat_toNat (by omega), show (x * 16 + y) / 16 = x by omega, show (x * 16 + y) % 16 = y by omega, a1, b1]
theorem unhex_cons (x : UInt8) (t : W8) : unhex (x :: t) = if x = 120 then unhex2 t else none := rfl
theorem depsN_cons (x : UInt8) (t : W8) : depsN (x :: t) = if x = 100 then (if t = [] then some [] else mapO (fun w => valN w 4294967295) (pcs 44 t)) else none := rfl
theorem unhex_hex (s : W8) : unhex (hexW s) = some s := by rw [hexW, unhex_cons, if_pos rfl]; exact unhex2_hex s
theorem hex_unhex {w s : W8} (h : unhex w = some s) : w = hexW s := by
  cases w with
  | nil => cases h
  | cons x t =>
    rw [unhex_cons] at h
    split at h
    · rename_i hx
      subst hx
      rw [hexW, ← hex_unhex2 t s h]
    · cases h
section
variable {α β : Type} {f : α → Option β}
theorem mapO_map {γ : Type} {g : γ → α} {h : γ → β} : ∀ (l : List γ), (∀ x ∈ l, f (g x) = some (h x)) → mapO f (l.map g) = some (l.map h)
  | [], _ => rfl
  | x :: l, hl => by rw [List.map_cons, mapO, hl x (by simp), mapO_map l (fun y hy => hl y (by simp [hy]))]; rfl
theorem mapO_inv {g : β → α} {p : β → Prop} (hf : ∀ x y, f x = some y → x = g y ∧ p y) : ∀ (l : List α) (m : List β), mapO f l = some m → l = m.map g ∧ ∀ y ∈ m, p y
  | [], m, h => by injection h with h; subst h; exact ⟨rfl, fun y hy => by cases hy⟩
  | x :: l, m, h => by
    unfold mapO at h
    cases h1 : f x with
    | none => rw [h1] at h; cases h
    | some y =>
      cases h2 : mapO f l with
      | none => rw [h1, h2] at h; cases h
      | some ms =>
        rw [h1, h2] at h
        injection h with h
        subst h
        obtain ⟨e1, e2⟩ := hf x y h1
        obtain ⟨e3, e4⟩ := mapO_inv hf l ms h2
        refine ⟨by rw [List.map_cons, ← e1, ← e3], fun z hz => ?_⟩
        rcases List.mem_cons.1 hz with rfl | hz
        · exact e2
        · exact e4 z hz
end
theorem num_notin {n : Nat} {c : UInt8} (h : c.toNat < 48 ∨ 57 < c.toNat) : c ∉ Lib.decDigits n := fun hc => by
  have := num_digit n c hc
  omega
theorem depsN_deps {l : List Nat} (h : ∀ d ∈ l, d ≤ 4294967295) : depsN (depsW l) = some l := by
  rw [depsW, depsN_cons, if_pos rfl]
  cases l with
  | nil => rfl
  | cons d l =>
    have hj : Lib.join ((d :: l).map Lib.decDigits) [44] ≠ [] := by
      rw [List.map_cons, Lib.join_cons]
      intro h
      exact num_ne d (List.append_eq_nil_iff.1 h).1
    rw [if_neg hj, pcs_of_join _ (by simp) (fun w hw => by obtain ⟨n, _, rfl⟩ := List.mem_map.1 hw; exact num_notin (by decide))]
    have := mapO_map (f := fun w => valN w 4294967295) (g := Lib.decDigits) (h := fun d : Nat => d) (d :: l) (fun x hx => valN_num (h x hx))
    rw [this]
    simp
theorem deps_depsN {w : W8} {l : List Nat} (h : depsN w = some l) : w = depsW l ∧ ∀ d ∈ l, d ≤ 4294967295 := by
  cases w with
  | nil => cases h
  | cons x t =>
    rw [depsN_cons] at h
    split at h
    · rename_i hx
      subst hx
      split at h
      · rename_i ht
        subst ht
        injection h with h
        subst h
        exact ⟨rfl, fun d hd => by cases hd⟩
      · obtain ⟨h1, h2⟩ := mapO_inv (g := Lib.decDigits) (p := fun d => d ≤ 4294967295) (fun x y hxy => ⟨(valN_some.1 hxy).1.symm, (valN_some.1 hxy).2⟩) _ _ h
        refine ⟨?_, h2⟩
        rw [depsW, ← h1, pcs_join _ t (Nat.le_refl _)]
    · cases h
theorem twoN_two {a b f s : Nat} (ha : a ≤ f) (hb : b ≤ s) : twoN (Lib.decDigits a ++ 46 :: Lib.decDigits b) f s = some (a, b) := by
  unfold twoN
  rw [pcs_app (num_notin (by decide)), pcs_noc (num_notin (by decide))]
  simp only [valN_num ha, valN_num hb]
theorem two_twoN {w : W8} {f s : Nat} {v : Nat × Nat} (h : twoN w f s = some v) : w = Lib.decDigits v.1 ++ 46 :: Lib.decDigits v.2 ∧ v.1 ≤ f ∧ v.2 ≤ s := by
  have hj := pcs_join (c := 46) _ w (Nat.le_refl _)
  unfold twoN at h
  split at h
  · rename_i a b e
    split at h
    · rename_i x y hx hy
      injection h with h
      subst h
      obtain ⟨h1, h2⟩ := valN_some.1 hx
      obtain ⟨h3, h4⟩ := valN_some.1 hy
      refine ⟨?_, h2, h4⟩
      rw [← hj, e, h1, h3, join_cons2 _ _ (by simp), Lib.join_one]
      simp
    · cases h
  · cases h
theorem conf_ok {c : TCf} (h : prOk c.rp = true) (he : c.ep < 18446744073709551616) : twoN (confW c) 18446744073709551615 63 = some (c.ep, c.rp.toNat) ∧ cfOf (c.ep, c.rp.toNat) = c := by
  unfold prOk at h
  rw [Bool.and_eq_true, decide_eq_true_eq, decide_eq_true_eq] at h
  refine ⟨twoN_two (by omega) (by omega), ?_⟩
  unfold cfOf
  obtain ⟨e, r⟩ := c
  simp only at h ⊢
  congr 1
  omega
theorem name_ok {n : TNm} (h : prOk n.proc = true) (he : n.inc < 4294967296) : twoN (nameW n) 63 4294967295 = some (n.proc.toNat, n.inc) ∧ nmOf (n.proc.toNat, n.inc) = n := by
  unfold prOk at h
  rw [Bool.and_eq_true, decide_eq_true_eq, decide_eq_true_eq] at h
  refine ⟨twoN_two (by omega) (by omega), ?_⟩
  unfold nmOf
  obtain ⟨e, r⟩ := n
  simp only at h ⊢
  congr 1
  omega
theorem pr_ok {p : Int} (h : prOk p = true) : valN (prW p) 63 = some p.toNat ∧ ((p.toNat : Nat) : Int) = p := by
  unfold prOk at h
  rw [Bool.and_eq_true, decide_eq_true_eq, decide_eq_true_eq] at h
  exact ⟨valN_num (by omega), by omega⟩
theorem prOk_nat {v : Nat} (h : v ≤ 63) : prOk (v : Int) = true := by
  unfold prOk
  rw [Bool.and_eq_true, decide_eq_true_eq, decide_eq_true_eq]
  omega
theorem takeM_ok {m : TMg} (h : prOk m.frm = true ∧ prOk m.svc = true) (hw : m.seq < 4294967296 ∧ m.stamp < 18446744073709551616 ∧ ∀ d ∈ m.deps, d < 4294967296) (r : List W8) : takeM (msgW m ++ r) = some (m, r) := by
  obtain ⟨f1, f2⟩ := pr_ok h.1
  obtain ⟨s1, s2⟩ := pr_ok h.2
  unfold takeM msgW
  simp only [List.cons_append, List.nil_append, takeN, takeD, takeB, f1, s1, valN_num (show m.seq ≤ 4294967295 by omega), valN_num (show m.stamp ≤ 18446744073709551615 by omega), depsN_deps (fun d hd => show d ≤ 4294967295 by have := hw.2.2 d hd; omega), unhex_hex, Option.map_some, Option.bind_some, f2, s2]
theorem field_ok {x : TEv} (hw : x.Wf) (f : Lt) (acc : TEv) (rest : List W8) (ha : f = .a → rest = []) (h : fieldOk f x = true) : fieldT f acc (fieldW f x ++ rest) = some (setF f x acc, rest) := by
  obtain ⟨⟨w1, w2, w3⟩, ⟨w4, w5, w6⟩, w7, w8⟩ := hw
  have hnm : x.names.all (fun n => prOk n.proc) = true → mapO (fun w => twoN w 63 4294967295) (x.names.map nameW) = some (x.names.map fun n => (n.proc.toNat, n.inc)) ∧ (x.names.map fun n => (n.proc.toNat, n.inc)).map nmOf = x.names := by
    intro hn
    rw [List.all_eq_true] at hn
    refine ⟨mapO_map (f := fun w => twoN w 63 4294967295) (g := nameW) (h := fun n => (n.proc.toNat, n.inc)) _ (fun n hm => (name_ok (hn n hm) (w8 n hm)).1), ?_⟩
    rw [List.map_map]
    conv => rhs; rw [← List.map_id x.names]
    exact List.map_congr_left (fun n hm => (name_ok (hn n hm) (w8 n hm)).2)
  cases f with
  | c => obtain ⟨h1, h2⟩ := conf_ok (c := x.conf) h w1; simp only [fieldT, fieldW, takeT, List.cons_append, List.nil_append, h1, Option.map_some, h2, setF]
  | n => obtain ⟨h1, h2⟩ := conf_ok (c := x.new) h w2; simp only [fieldT, fieldW, takeT, List.cons_append, List.nil_append, h1, Option.map_some, h2, setF]
  | s => simp only [fieldT, fieldW, takeN, List.cons_append, List.nil_append, valN_num (show x.mem ≤ 18446744073709551615 by omega), Option.map_some, setF]
  | m =>
    have h' : prOk x.m.frm = true ∧ prOk x.m.svc = true := by simpa [fieldOk] using h
    have := takeM_ok h' w7 rest
    simp only [fieldT, fieldW, this, Option.map_some, setF]
  | v =>
    obtain ⟨h1, h2⟩ := conf_ok (c := x.vconf) h w3
    simp only [fieldT, fieldW, takeV, takeN, takeT, List.cons_append, List.nil_append, h1, valN_num (show x.num ≤ 18446744073709551615 by omega), valN_num (show x.vmem ≤ 18446744073709551615 by omega), Option.map_some, Option.bind_some, h2, setF]
  | a =>
    obtain rfl := ha rfl
    obtain ⟨h1, h2⟩ := hnm h
    simp only [fieldT, fieldW, List.append_nil, h1, Option.map_some, h2, setF]
  | o =>
    have h' : x.names.length = 1 ∧ x.names.all (fun n => prOk n.proc) = true := by
      have : fieldOk .o x = (decide (x.names.length = 1) && x.names.all (fun n => prOk n.proc)) := rfl
      rw [this, Bool.and_eq_true, decide_eq_true_eq] at h
      exact h
    obtain ⟨n, hn⟩ := List.length_eq_one_iff.1 h'.1
    have h3 := h'.2
    rw [hn] at h3
    have h4 : prOk n.proc = true := by simpa using h3
    obtain ⟨h1, h2⟩ := name_ok h4 (w8 n (by rw [hn]; simp))
    simp only [fieldT, fieldW, hn, List.map_cons, List.map_nil, takeT, List.cons_append, List.nil_append, h1, Option.map_some, h2, setF]
  | b => simp only [fieldT, fieldW, takeB, List.cons_append, List.nil_append, unhex_hex, Option.map_some, setF]
/-- Two letters that name unlike fields. -/
def sepL (f g : Lt) : Bool := f != g && !((f == .a || f == .o) && (g == .a || g == .o))
def goodR : List Lt → Bool
  | [] => true
  | f :: r => (f != .a || r.isEmpty) && r.all (sepL f) && goodR r
theorem row_good (k : Nat) : goodR (rowL k) = true := by
  unfold rowL
  split <;> decide
theorem row_ok {x : TEv} (hw : x.Wf) : ∀ (r : List Lt) (acc : TEv), goodR r = true → r.all (fieldOk · x) = true → rowT r acc (r.flatMap (fieldW · x)) = some (r.foldl (fun y f => setF f x y) acc, [])
  | [], acc, _, _ => rfl
  | f :: r, acc, hg, h => by
    rw [goodR, Bool.and_eq_true, Bool.and_eq_true] at hg
    rw [List.all_cons, Bool.and_eq_true] at h
    rw [List.flatMap_cons, rowT, field_ok hw f acc _ (fun e => ?_) h.1]
    · exact row_ok hw r _ hg.2 h.2
    · subst e
      have h1 := hg.1.1
      have : r = [] := by simpa using h1
      rw [this]; rfl
theorem kindN_kindW : ∀ k : Fin 13, k.val ≠ 0 → kindN (kindW k.val) = k.val := by decide +kernel
theorem parse_print {x : TEv} (hw : x.Wf) (h : evE x = 0) : parseW (evW x) = some (cleanE x) := by
  unfold evE at h
  split at h
  · cases h
  · rename_i hk
    split at h
    · rename_i ho
      unfold evOk at ho
      rw [Bool.and_eq_true] at ho
      obtain ⟨p1, p2⟩ := pr_ok ho.1
      have hk1 : x.kind.toNat < 13 := by omega
      have hk2 := kindN_kindW ⟨_, hk1⟩ (show x.kind.toNat ≠ 0 by omega)
      have hk2 : kindN (kindW x.kind.toNat) = x.kind.toNat := hk2
      have hr := row_ok hw (rowL x.kind.toNat) (begE (x.kind.toNat : Nat) ((x.proc.toNat : Nat) : Int)) (row_good _) ho.2
      unfold evW parseW
      simp only [p1, hk2, hr]
      rw [if_neg (by omega)]
      unfold cleanE
      rw [p2, show ((x.kind.toNat : Nat) : Int) = x.kind by omega]
    · cases h
theorem sep_field {f g : Lt} (h : sepL f g = true) (x y z : TEv) : fieldW f (setF g x y) = fieldW f y ∧ fieldOk f (setF g x y) = fieldOk f y ∧ setF f (setF g x y) z = setF f y z := by
  cases f <;> cases g <;> first | exact ⟨rfl, rfl, rfl⟩ | (exact absurd h (by decide))
theorem setF_kind (f : Lt) (x y : TEv) : (setF f x y).kind = y.kind ∧ (setF f x y).proc = y.proc := by cases f <;> exact ⟨rfl, rfl⟩
theorem Wf.zero (k p : Int) : (begE k p).Wf :=
  ⟨⟨by show 0 < _; decide, by show 0 < _; decide, by show 0 < _; decide⟩, ⟨by show 0 < _; decide, by show 0 < _; decide, by show 0 < _; decide⟩, ⟨by show 0 < _; decide, by show 0 < _; decide, fun d hd => by cases hd⟩, fun n hn => by cases hn⟩
theorem takeN_inv {most v : Nat} {l r : List W8} (h : takeN most l = some (v, r)) : l = Lib.decDigits v :: r ∧ v ≤ most := by
  cases l with
  | nil => cases h
  | cons w l =>
    rw [takeN] at h
    cases e : valN w most with
    | none => rw [e] at h; cases h
    | some u =>
      rw [e] at h
      injection h with h
      injection h with h1 h2
      subst h1 h2
      obtain ⟨e1, e2⟩ := valN_some.1 e
      exact ⟨by rw [e1], e2⟩
theorem takeT_inv {f s : Nat} {v : Nat × Nat} {l r : List W8} (h : takeT f s l = some (v, r)) : l = (Lib.decDigits v.1 ++ 46 :: Lib.decDigits v.2) :: r ∧ v.1 ≤ f ∧ v.2 ≤ s := by
  cases l with
  | nil => cases h
  | cons w l =>
    rw [takeT] at h
    cases e : twoN w f s with
    | none => rw [e] at h; cases h
    | some u =>
      rw [e] at h
      injection h with h
      injection h with h1 h2
      subst h1 h2
      obtain ⟨e1, e2⟩ := two_twoN e
      exact ⟨by rw [← e1], e2⟩
theorem takeB_inv {v : W8} {l r : List W8} (h : takeB l = some (v, r)) : l = hexW v :: r := by
  cases l with
  | nil => cases h
  | cons w l =>
    rw [takeB] at h
    cases e : unhex w with
    | none => rw [e] at h; cases h
    | some u =>
      rw [e] at h
      injection h with h
      injection h with h1 h2
      subst h1 h2
      rw [hex_unhex e]
theorem takeD_inv {v : List Nat} {l r : List W8} (h : takeD l = some (v, r)) : l = depsW v :: r ∧ ∀ d ∈ v, d ≤ 4294967295 := by
  cases l with
  | nil => cases h
  | cons w l =>
    rw [takeD] at h
    cases e : depsN w with
    | none => rw [e] at h; cases h
    | some u =>
      rw [e] at h
      injection h with h
      injection h with h1 h2
      subst h1 h2
      obtain ⟨e1, e2⟩ := deps_depsN e
      exact ⟨by rw [e1], e2⟩
theorem bind_inv {α β : Type} {o : Option α} {f : α → Option β} {b : β} (h : o.bind f = some b) : ∃ a, o = some a ∧ f a = some b := Option.bind_eq_some_iff.1 h
theorem map_inv {α β : Type} {o : Option α} {f : α → β} {b : β} (h : o.map f = some b) : ∃ a, o = some a ∧ f a = b := Option.map_eq_some_iff.1 h
theorem takeM_inv {m : TMg} {l r : List W8} (h : takeM l = some (m, r)) : l = msgW m ++ r ∧ (prOk m.frm = true ∧ prOk m.svc = true) ∧ m.seq < 4294967296 ∧ m.stamp < 18446744073709551616 ∧ ∀ d ∈ m.deps, d < 4294967296 := by
  obtain ⟨⟨f, l1⟩, h1, h⟩ := bind_inv h
  obtain ⟨⟨q, l2⟩, h2, h⟩ := bind_inv h
  obtain ⟨⟨st, l3⟩, h3, h⟩ := bind_inv h
  obtain ⟨⟨sv, l4⟩, h4, h⟩ := bind_inv h
  obtain ⟨⟨d, l5⟩, h5, h⟩ := bind_inv h
  obtain ⟨⟨p, l6⟩, h6, h⟩ := map_inv h
  injection h with e1 e2
  subst e1 e2
  obtain ⟨rfl, b1⟩ := takeN_inv h1
  obtain ⟨rfl, b2⟩ := takeN_inv h2
  obtain ⟨rfl, b3⟩ := takeN_inv h3
  obtain ⟨rfl, b4⟩ := takeN_inv h4
  obtain ⟨rfl, b5⟩ := takeD_inv h5
  obtain rfl := takeB_inv h6
  refine ⟨rfl, ⟨prOk_nat b1, prOk_nat b4⟩, by show q < _; omega, by show st < _; omega, fun x hx => by have := b5 x hx; omega⟩
theorem field_inv {acc y : TEv} {l rest : List W8} (f : Lt) (hw : acc.Wf) (h : fieldT f acc l = some (y, rest)) : y.Wf ∧ l = fieldW f y ++ rest ∧ fieldOk f y = true ∧ y = setF f y acc := by
  obtain ⟨⟨w1, w2, w3⟩, ⟨w4, w5, w6⟩, w7, w8⟩ := hw
  cases f with
  | c =>
    obtain ⟨⟨c, l1⟩, h1, h⟩ := map_inv h
    injection h with e1 e2
    subst e1 e2
    obtain ⟨rfl, b1, b2⟩ := takeT_inv h1
    exact ⟨⟨⟨by show c.1 < _; omega, w2, w3⟩, ⟨w4, w5, w6⟩, w7, w8⟩, rfl, prOk_nat b2, rfl⟩
  | n =>
    obtain ⟨⟨c, l1⟩, h1, h⟩ := map_inv h
    injection h with e1 e2
    subst e1 e2
    obtain ⟨rfl, b1, b2⟩ := takeT_inv h1
    exact ⟨⟨⟨w1, by show c.1 < _; omega, w3⟩, ⟨w4, w5, w6⟩, w7, w8⟩, rfl, prOk_nat b2, rfl⟩
  | s =>
    obtain ⟨⟨c, l1⟩, h1, h⟩ := map_inv h
    injection h with e1 e2
    subst e1 e2
    obtain ⟨rfl, b1⟩ := takeN_inv h1
    exact ⟨⟨⟨w1, w2, w3⟩, ⟨by show c < _; omega, w5, w6⟩, w7, w8⟩, rfl, rfl, rfl⟩
  | m =>
    obtain ⟨⟨c, l1⟩, h1, h⟩ := map_inv h
    injection h with e1 e2
    subst e1 e2
    obtain ⟨rfl, b1, b2⟩ := takeM_inv h1
    exact ⟨⟨⟨w1, w2, w3⟩, ⟨w4, w5, w6⟩, b2, w8⟩, rfl, by show (prOk c.frm && prOk c.svc) = true; rw [b1.1, b1.2]; rfl, rfl⟩
  | v =>
    obtain ⟨⟨c, l1⟩, h1, h⟩ := map_inv h
    obtain ⟨⟨n, l2⟩, h2, h1⟩ := bind_inv h1
    obtain ⟨⟨cc, l3⟩, h3, h1⟩ := bind_inv h1
    obtain ⟨⟨mm, l4⟩, h4, h1⟩ := map_inv h1
    injection h1 with e1 e2
    subst e1 e2
    injection h with e1 e2
    subst e1 e2
    obtain ⟨rfl, b1⟩ := takeN_inv h2
    obtain ⟨rfl, b2, b3⟩ := takeT_inv h3
    obtain ⟨rfl, b4⟩ := takeN_inv h4
    exact ⟨⟨⟨w1, w2, by show cc.1 < _; omega⟩, ⟨w4, by show n < _; omega, by show mm < _; omega⟩, w7, w8⟩, rfl, prOk_nat b3, rfl⟩
  | a =>
    obtain ⟨ns, h1, h⟩ := map_inv h
    injection h with e1 e2
    subst e1 e2
    obtain ⟨rfl, b1⟩ := mapO_inv (g := fun v : Nat × Nat => nameW (nmOf v)) (p := fun v : Nat × Nat => v.1 ≤ 63 ∧ v.2 ≤ 4294967295) (fun w v hwv => by
      obtain ⟨h1, h2⟩ := two_twoN hwv
      exact ⟨h1, h2⟩) _ _ h1
    refine ⟨⟨⟨w1, w2, w3⟩, ⟨w4, w5, w6⟩, w7, fun n hn => ?_⟩, by rw [List.append_nil]; show _ = (ns.map nmOf).map nameW; rw [List.map_map]; rfl, ?_, rfl⟩
    · obtain ⟨v, hv, rfl⟩ := List.mem_map.1 hn
      have := (b1 v hv).2
      show v.2 < _; omega
    · show (ns.map nmOf).all (fun n => prOk n.proc) = true
      rw [List.all_eq_true]
      intro n hn
      obtain ⟨v, hv, rfl⟩ := List.mem_map.1 hn
      exact prOk_nat (b1 v hv).1
  | o =>
    obtain ⟨⟨c, l1⟩, h1, h⟩ := map_inv h
    injection h with e1 e2
    subst e1 e2
    obtain ⟨rfl, b1, b2⟩ := takeT_inv h1
    refine ⟨⟨⟨w1, w2, w3⟩, ⟨w4, w5, w6⟩, w7, fun n hn => ?_⟩, rfl, ?_, rfl⟩
    · obtain rfl := List.mem_singleton.1 hn
      show c.2 < _; omega
    · show (decide (([nmOf c] : List TNm).length = 1) && [nmOf c].all (fun n => prOk n.proc)) = true
      simp [nmOf, prOk_nat b1]
  | b =>
    obtain ⟨⟨c, l1⟩, h1, h⟩ := map_inv h
    injection h with e1 e2
    subst e1 e2
    obtain rfl := takeB_inv h1
    exact ⟨⟨⟨w1, w2, w3⟩, ⟨w4, w5, w6⟩, w7, w8⟩, rfl, rfl, rfl⟩
theorem row_inv : ∀ (r : List Lt) (acc y : TEv) (l rest : List W8), goodR r = true → acc.Wf → rowT r acc l = some (y, rest) →
    y.Wf ∧ l = r.flatMap (fieldW · y) ++ rest ∧ r.all (fieldOk · y) = true ∧ y = r.foldl (fun a f => setF f y a) acc ∧ (y.kind = acc.kind ∧ y.proc = acc.proc) ∧ ∀ f, r.all (sepL f) = true → fieldW f y = fieldW f acc ∧ fieldOk f y = fieldOk f acc ∧ ∀ z, setF f y z = setF f acc z
  | [], acc, y, l, rest, _, hw, h => by
    injection h with h
    injection h with e1 e2
    subst e1 e2
    exact ⟨hw, rfl, rfl, rfl, ⟨rfl, rfl⟩, fun f _ => ⟨rfl, rfl, fun z => rfl⟩⟩
  | f :: r, acc, y, l, rest, hg, hw, h => by
    rw [goodR, Bool.and_eq_true, Bool.and_eq_true] at hg
    obtain ⟨⟨y1, l1⟩, h1, h2⟩ := bind_inv h
    obtain ⟨a1, rfl, a3, a4⟩ := field_inv f hw h1
    obtain ⟨b1, b2, b3, b4, b5, b6⟩ := row_inv r y1 y l1 rest hg.2 a1 h2
    obtain ⟨c1, c2, c3⟩ := b6 f hg.1.2
    have hk := setF_kind f y1 acc
    rw [← a4] at hk
    refine ⟨b1, ?_, ?_, ?_, ⟨b5.1.trans hk.1, b5.2.trans hk.2⟩, fun g hgs => ?_⟩
    · rw [List.flatMap_cons, c1, List.append_assoc, ← b2]
    · rw [List.all_cons, b3, c2, a3]; rfl
    · rw [List.foldl_cons, c3 acc, ← a4]; exact b4
    · rw [List.all_cons, Bool.and_eq_true] at hgs
      obtain ⟨d1, d2, d3⟩ := b6 g hgs.2
      obtain ⟨e1, e2, _⟩ := sep_field hgs.1 y1 acc acc
      rw [← a4] at e1 e2
      refine ⟨d1.trans e1, d2.trans e2, fun z => ?_⟩
      rw [d3 z, a4]
      exact (sep_field hgs.1 y1 acc z).2.2
theorem kindN_inv {w : W8} (h : kindN w ≠ 0) : kindW (kindN w) = w ∧ kindN w ≤ 12 := by
  unfold kindN at h ⊢
  split at h
  · exact absurd rfl h
  · rename_i hne
    rw [if_neg hne]
    cases e : kindWs.findIdx? (· == w) with
    | none => rw [e] at h; exact absurd rfl h
    | some i =>
      obtain ⟨hi, h1, _⟩ := List.findIdx?_eq_some_iff_getElem.1 e
      have h2 : kindWs[i] = w := by simpa using h1
      refine ⟨?_, ?_⟩
      · show kindWs.getD i [] = w
        rw [List.getD_eq_getElem?_getD, List.getElem?_eq_getElem hi]
        exact h2
      · show i ≤ 12
        have : kindWs.length = 13 := rfl
        omega
theorem print_parse {ws : List W8} {y : TEv} (h : parseW ws = some y) : y.Wf ∧ evE y = 0 ∧ evW y = ws ∧ cleanE y = y := by
  unfold parseW at h
  split at h
  · rename_i p k r
    split at h
    · rename_i q hq
      split at h
      · cases h
      · rename_i hk
        split at h
        · rename_i z hz
          injection h with h
          subst h
          obtain ⟨a1, a2, a3, a4, a5, _⟩ := row_inv _ _ _ _ _ (row_good _) (Wf.zero _ _) hz
          obtain ⟨k1, k2⟩ := kindN_inv hk
          obtain ⟨v1, v2⟩ := valN_some.1 hq
          have e1 : z.kind = (kindN k : Nat) := a5.1
          have e2 : z.proc = (q : Nat) := a5.2
          have e3 : z.kind.toNat = kindN k := by rw [e1]; exact Int.toNat_natCast _
          refine ⟨a1, ?_, ?_, ?_⟩
          · unfold evE
            rw [if_neg (by rw [e1]; omega), if_pos]
            unfold evOk
            rw [e2, prOk_nat v2, e3, a3]
            rfl
          · unfold evW
            rw [e3, k1, e2, prW, Int.toNat_natCast, v1, a2, List.append_nil]
          · unfold cleanE
            rw [e3, e1, e2]
            exact a4.symm
        · cases h
    · cases h
  · cases h
end Go.Proofs.YtpkknhhohbobaaaGreatDoor
