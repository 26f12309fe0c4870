/- the net: walks of Heal, Cut, New -/
import Derived.Test.YtmlkmonapnebiaaDoorRNetA
import Derived.Deep.RegionHeld3
import Derived.Deep.RegionLaw
namespace Go.Proofs.YtmlkmonapnebiaaDoorR
open Go.RowKit Go.Sort

theorem memN_at {x k : Nat} (h : k < (memN x).length) : (memN x)[k] < 64 := memN_lt x _ (List.getElem_mem h)
theorem memI_at {x k : Nat} (h : k < (memI x).length) : (memI x)[k] = (((memN x)[k]'(by rw [memI, List.length_map] at h; exact h) : Nat) : Int) := by simp [memI]
/-- Of the members in l the links are turned. -/
def turnL (g : Nat → Nat → Nat) (s : NS) (l : List Nat) : NS := l.foldl (fun s p => s.setL p (g p (s.links p))) s
theorem turnL_take (g : Nat → Nat → Nat) (s : NS) (l : List Nat) (k : Nat) (h : k < l.length) : turnL g s (l.take (k + 1)) = (turnL g s (l.take k)).setL l[k] (g l[k] ((turnL g s (l.take k)).links l[k])) := by
  rw [List.take_succ_eq_append_getElem h, turnL, List.foldl_append]; rfl
theorem turnL_l (g : Nat → Nat → Nat) (l : List Nat) : ∀ s, (turnL g s l).l = s.l ∧ (turnL g s l).n = s.n := by
  induction l with
  | nil => intro s; exact ⟨rfl, rfl⟩
  | cons p l ih => intro s; exact ih (s.setL p (g p (s.links p)))
theorem turnL_links (g : Nat → Nat → Nat) (l : List Nat) (hl : l.Nodup) : ∀ s i, (turnL g s l).links i = if i ∈ l then g i (s.links i) else s.links i := by
  induction l with
  | nil => intro s i; rfl
  | cons p l ih =>
    intro s i
    have hn := List.nodup_cons.1 hl
    refine (ih hn.2 _ i).trans ?_
    show (if i ∈ l then g i (if i = p then _ else s.links i) else if i = p then _ else s.links i) = _
    by_cases e : i = p
    · subst e
      rw [if_neg hn.1, if_pos rfl, if_pos (List.mem_cons_self ..)]
    · rw [if_neg e]
      by_cases h : i ∈ l
      · rw [if_pos h, if_pos (List.mem_cons_of_mem _ h)]
      · rw [if_neg h, if_neg (fun hc => by rcases List.mem_cons.1 hc with hc | hc; exact e hc; exact h hc)]
theorem memN_nodup (x : Nat) : (memN x).Nodup := List.Nodup.sublist (List.filter_sublist ..) List.nodup_range
theorem memN_mem {x p : Nat} : p ∈ memN x ↔ p < 64 ∧ x.testBit p = true := by rw [memN, List.mem_filter, List.mem_range]
theorem mem_all {n i : Nat} (hn : n ≤ 64) : i ∈ memN (allN n) ↔ i < n := by
  rw [memN_mem]
  constructor
  · rintro ⟨h1, h2⟩
    rw [allN_bit _ _ h1] at h2
    have := of_decide_eq_true h2
    omega
  · intro h
    refine ⟨by omega, ?_⟩
    rw [allN_bit _ _ (by omega)]
    exact decide_eq_true (by omega)
def NS.turn (g : Nat → Nat → Nat) (s : NS) : NS := { s with links := fun i => if i < s.n then g i (s.links i) else s.links i }
theorem turnL_all (g : Nat → Nat → Nat) (s : NS) (hn : s.n ≤ 64) : turnL g s (memN (allN s.n)) = s.turn g := by
  have h1 := turnL_l g (memN (allN s.n)) s
  have h2 := turnL_links g (memN (allN s.n)) (memN_nodup _) s
  cases e : turnL g s (memN (allN s.n)) with
  | mk n' links' l' =>
    rw [e] at h1 h2
    obtain ⟨hl, hn'⟩ := h1
    simp only at hl hn' h2
    subst hl hn'
    unfold NS.turn
    congr 1
    funext i
    rw [h2 i]
    by_cases h : i < s.n
    · rw [if_pos ((mem_all hn).2 h), if_pos h]
    · rw [if_neg (fun hc => h ((mem_all hn).1 hc)), if_neg h]
def NS.heal (s : NS) : NS := s.turn fun _ _ => allN s.n
def cutG (x : Nat) (p y : Nat) : Nat := if hasB x p = true then y &&& x else butN y x
def NS.cut (s : NS) (x : Nat) : NS := s.turn (cutG x)
theorem NS.turn_ok {g : Nat → Nat → Nat} {s : NS} (h : s.Ok) (hg : ∀ i y, y < 18446744073709551616 → g i y < 18446744073709551616) : (s.turn g).Ok :=
  ⟨h.n, fun i => by show (if i < s.n then _ else _) < _; split; exact hg i _ (h.links i); exact h.links i, h.len⟩
theorem NS.heal_ok {s : NS} (h : s.Ok) : s.heal.Ok := NS.turn_ok h fun _ _ _ => allN_lt _
theorem cutG_lt (x : Nat) (i y : Nat) (hy : y < 18446744073709551616) : cutG x i y < 18446744073709551616 := by
  unfold cutG; split
  · exact and_lt _ _ hy
  · exact but_lt _ _ hy
theorem NS.cut_ok {s : NS} (h : s.Ok) (x : Nat) : (s.cut x).Ok := NS.turn_ok h (cutG_lt x)
theorem turnL_ok {g : Nat → Nat → Nat} (hg : ∀ i y, y < 18446744073709551616 → g i y < 18446744073709551616) (l : List Nat) : ∀ s : NS, s.Ok → (turnL g s l).Ok := by
  induction l with
  | nil => intro s h; exact h
  | cons p l ih =>
    intro s h
    refine ih (s.setL p _) ⟨h.n, fun i => ?_, h.len⟩
    show (if i = p then _ else s.links i) < _
    split
    · exact hg _ _ (h.links p)
    · exact h.links i
section
variable {B : Nat} {w : World} {O : Nat → Prop} {b : Nat} {s : NS} {v : Value}
set_option maxHeartbeats 1600000 in
set_option maxRecDepth 100000 in
theorem heal_any (hs : s.Ok) (h : NetAt B w O b s v) (hT : Tab w) :
    Calls Tryd.prog 13 #[.pointer (some ⟨b, 0, none⟩)] w fun e w' => e = .returned (.tuple #[]) ∧ NetAt B w' O b s.heal v ∧ Kp b w w' := by
  have c0 := h.c0
  have hlt := h.lt
  have HA := Lib.hid (fun W => allS_any s.n W)
  have HF := Lib.hid (turnL_all (fun _ _ => allN s.n) s hs.n)
  have hal := allN_lt s.n
  have HL := Lib.hid (fun W hT => list_any (allN s.n) W hal hT)
  have HE := Lib.hid (show s.heal = s.turn fun _ _ => allN s.n from rfl)
  generalize hx : allN s.n = x at *
  clear hx
  have hc64 := cardN_le x
  have hmlen := memN_len x
  go_enter Tryd.func13, Tryd.ntmps13
  go_wp2_with fail
  refine (HA.out _).mono ?_
  rintro e w' ⟨rfl, rfl⟩
  go_wp2_with fail
  refine (HL.out _ hT).mono ?_
  rintro e w2 ⟨lv, rfl, hown, hb2⟩
  obtain ⟨ma, mc, rfl, hrm⟩ := Rd.own hown
  have hln := hrm.intLen
  have hmb : ∀ g off, ma = some ⟨g, off, none⟩ → g ≠ b := fun g off e => by
    subst e
    have := (hown.lt g rfl).1
    omega
  have h2 := h.below hb2
  have hK0 := Kp.ofBelow (b := b) hb2
  clear hown c0 h HA HL
  go_wp2
  go_loopw [4, 13] (fun _ i wr => ∃ k : Nat, k ≤ cardN x ∧ i = .int .i64 k ∧ NetAt B wr O b (turnL (fun _ _ => x) s ((memN x).take k)) v ∧ Kp b w2 wr) (fun _ i _ => cardN x - (intOf i).toNat)
  case atStart => exact ⟨0, Nat.zero_le _, rfl, h2, Kp.refl _ _⟩
  case round =>
    clear h2
    obtain ⟨k, hk, rfl, h, hkr⟩ := hrel
    by_cases hlt : k < cardN x
    · have hkl : k < (memI x).length := by rw [hln]; exact hlt
      have hkn : k < (memN x).length := by rw [hmlen]; exact hlt
      have hkI : (k : Int) < cardN x := by omega
      have hrr := hkr.rd hrm hmb
      obtain ⟨bl, off, rfl, _⟩ := hrr.addr (by omega)
      have hc := hrr.at (j := k) (u := .int .i64 ((memN x)[k] : Nat)) (by rw [List.getElem?_map, List.getElem?_eq_getElem hkl, memI_at]; rfl)
      have hp := memN_at hkn
      have HS := Lib.hid (turnL_take (fun _ _ => x) s (memN x) k hkn)
      generalize (memN x)[k] = p at *
      have hpI : (p : Int) < 64 := by omega
      have cp := h.cl p hp
      have fp := h.fz (1 + p)
      have hS := h.setL p x hp
      have HX := Lib.hid hS
      clear hS hrr
      go_wp2
      go_roundw
      case rel => exact ⟨k + 1, by omega, by go_num, by rw [HS.out]; exact HX.out.1, hkr.trans HX.out.2⟩
      case measure => simp [intOf]; omega
    · obtain rfl : k = cardN x := by omega
      have e1 : (memN x).take (cardN x) = memN x := by rw [← hmlen, List.take_length]
      rw [e1, HF.out, ← HE.out] at h
      go_wp2
      go_end0
      exact ⟨rfl, h, hK0.trans hkr⟩
set_option maxHeartbeats 3200000 in
set_option maxRecDepth 100000 in
theorem cut_any (x : Nat) (hx : x < 18446744073709551616) (hs : s.Ok) (h : NetAt B w O b s v) (hT : Tab w) :
    Calls Tryd.prog 10 #[.pointer (some ⟨b, 0, none⟩), .int .u64 x] w fun e w' => e = .returned (.tuple #[]) ∧ NetAt B w' O b (s.cut x) v ∧ Kp b w w' := by
  have c0 := h.c0
  have hlt := h.lt
  have HA := Lib.hid (fun W => allS_any s.n W)
  have HF := Lib.hid (turnL_all (cutG x) s hs.n)
  have hal := allN_lt s.n
  have HL := Lib.hid (fun W hT => list_any (allN s.n) W hal hT)
  have HE := Lib.hid (show s.cut x = s.turn (cutG x) from rfl)
  have HOk := Lib.hid (fun l => turnL_ok (cutG_lt x) l s hs)
  generalize hy : allN s.n = y at *
  clear hy
  have hc64 := cardN_le y
  have hmlen := memN_len y
  go_enter Tryd.func10, Tryd.ntmps10
  go_wp2_with fail
  refine (HA.out _).mono ?_
  rintro e w' ⟨rfl, rfl⟩
  go_wp2_with fail
  refine (HL.out _ hT).mono ?_
  rintro e w2 ⟨lv, rfl, hown, hb2⟩
  obtain ⟨ma, mc, rfl, hrm⟩ := Rd.own hown
  have hln := hrm.intLen
  have hmb : ∀ g off, ma = some ⟨g, off, none⟩ → g ≠ b := fun g off e => by
    subst e
    have := (hown.lt g rfl).1
    omega
  have h2 := h.below hb2
  have hK0 := Kp.ofBelow (b := b) hb2
  clear hown c0 h HA HL
  go_wp2
  go_loopw [5, 13] (fun _ i wr => ∃ k : Nat, k ≤ cardN y ∧ i = .int .i64 k ∧ NetAt B wr O b (turnL (cutG x) s ((memN y).take k)) v ∧ Kp b w2 wr) (fun _ i _ => cardN y - (intOf i).toNat)
  case atStart => exact ⟨0, Nat.zero_le _, rfl, h2, Kp.refl _ _⟩
  case round =>
    clear h2
    obtain ⟨k, hk, rfl, h, hkr⟩ := hrel
    by_cases hlt : k < cardN y
    · have hkl : k < (memI y).length := by rw [hln]; exact hlt
      have hkn : k < (memN y).length := by rw [hmlen]; exact hlt
      have hkI : (k : Int) < cardN y := by omega
      have hrr := hkr.rd hrm hmb
      obtain ⟨bl, off, rfl, _⟩ := hrr.addr (by omega)
      have hc := hrr.at (j := k) (u := .int .i64 ((memN y)[k] : Nat)) (by rw [List.getElem?_map, List.getElem?_eq_getElem hkl, memI_at]; rfl)
      have hp := memN_at hkn
      have HS := Lib.hid (turnL_take (cutG x) s (memN y) k hkn)
      generalize (memN y)[k] = p at *
      have hpI : (p : Int) < 64 := by omega
      have cp := h.cl p hp
      have fp := h.fz (1 + p)
      have hlk := (HOk.out ((memN y).take k)).links p
      have HH := Lib.hid (fun W => has_any x p hx W)
      generalize turnL (cutG x) s ((memN y).take k) = t at *
      have HB := Lib.hid (fun W => both_any (t.links p) x hlk hx W)
      have HBu := Lib.hid (fun W => but_any (t.links p) x hlk hx W)
      have HX := Lib.hid (fun z => h.setL p z hp)
      have HG := Lib.hid (show cutG x p (t.links p) = if hasB x p = true then t.links p &&& x else butN (t.links p) x from rfl)
      clear hrr
      generalize t.links p = z at *
      generalize hasB x (p : Int) = hb at *
      cases hb with
      | true =>
        have HG2 := Lib.hid (HG.out.trans (if_pos rfl))
        go_wp2_with fail
        refine (HH.out _).mono ?_
        rintro e w' ⟨rfl, rfl⟩
        go_wp2
        go_region_law (first | (go_simp; go_at_call 26; refine (HB.out _).mono ?_; rintro e w' ⟨rfl, rfl⟩))
        all_goals
          go_wp2
          go_roundw
          case rel => exact ⟨k + 1, by omega, by go_num, by rw [HS.out, HG2.out]; exact ((HX.out _).1).below (belN (Below.refl _ _) 1), (hkr.trans (HX.out _).2).drew⟩
          case measure => simp [intOf]; omega
      | false =>
        have HG2 := Lib.hid (HG.out.trans (if_neg (by decide)))
        go_wp2_with fail
        refine (HH.out _).mono ?_
        rintro e w' ⟨rfl, rfl⟩
        go_wp2
        go_region_law (first | (go_simp; go_at_call 27; refine (HBu.out _).mono ?_; rintro e w' ⟨rfl, rfl⟩))
        all_goals
          go_wp2
          go_roundw
          case rel => exact ⟨k + 1, by omega, by go_num, by rw [HS.out, HG2.out]; exact ((HX.out _).1).below (belN (Below.refl _ _) 1), (hkr.trans (HX.out _).2).drew⟩
          case measure => simp [intOf]; omega
    · obtain rfl : k = cardN y := by omega
      have e1 : (memN y).take (cardN y) = memN y := by rw [← hmlen, List.take_length]
      rw [e1, HF.out, ← HE.out] at h
      go_wp2
      go_end0
      exact ⟨rfl, h, hK0.trans hkr⟩
end
end Go.Proofs.YtmlkmonapnebiaaDoorR
