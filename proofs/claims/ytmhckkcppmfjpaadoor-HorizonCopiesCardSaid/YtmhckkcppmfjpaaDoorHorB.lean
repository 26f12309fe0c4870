/- the horizon: walks of See, Clock, Stamp, Reached, All, Safe, New -/
import Derived.Test.YtmhckkcppmfjpaaDoorHorA
namespace Go.Proofs.YtmhckkcppmfjpaaDoor
open Go.RowKit Go.Sort

def stampN (c : Nat) : Nat := if c = 18446744073709551615 then c else c + 1
def HS.see (s : HS) (st : Nat) : HS := { s with clock := max s.clock st }
def HS.stamp (s : HS) : HS := { s with clock := stampN s.clock }
def HS.reach (s : HS) (p : Int) (st : Nat) : HS := if hasB s.oth p = true then s.set p.toNat { s.l p.toNat with reached := max (s.l p.toNat).reached st } else s
def minL (f : Nat → Nat) (a : Nat) (l : List Nat) : Nat := l.foldl (fun a p => min a (f p)) a
theorem minL_snoc (f : Nat → Nat) (a : Nat) (l : List Nat) (p : Nat) : minL f a (l ++ [p]) = min (minL f a l) (f p) := by rw [minL, List.foldl_append]; rfl
theorem minL_le (f : Nat → Nat) (l : List Nat) : ∀ a, minL f a l ≤ a := by
  induction l with
  | nil => intro a; exact Nat.le_refl _
  | cons p l ih => intro a; exact Nat.le_trans (ih _) (Nat.min_le_left _ _)
def HS.all (s : HS) : Nat := minL (fun p => (s.l p).heard) s.clock (memN s.oth)
def HS.safe (s : HS) : Nat := minL (fun p => (s.l p).reached) s.all (memN s.oth)
theorem HS.all_lt {s : HS} (h : s.Ok) : s.all < 18446744073709551616 := Nat.lt_of_le_of_lt (minL_le _ _ _) h.clock
theorem HS.see_ok {s : HS} (h : s.Ok) {st : Nat} (hst : st < 18446744073709551616) : (s.see st).Ok :=
  ⟨Nat.max_lt.2 ⟨h.clock, hst⟩, h.oth, h.heard, h.reached, h.came, h.st, h.sent⟩
theorem stampN_lt {c : Nat} (h : c < 18446744073709551616) : stampN c < 18446744073709551616 := by unfold stampN; split <;> omega
theorem HS.stamp_ok {s : HS} (h : s.Ok) : s.stamp.Ok := ⟨stampN_lt h.clock, h.oth, h.heard, h.reached, h.came, h.st, h.sent⟩
theorem HS.set_ok {s : HS} (h : s.Ok) (p : Nat) {x : Mk} (h1 : x.heard < 18446744073709551616) (h2 : x.reached < 18446744073709551616) (h3 : x.came < 4294967296) (h4 : ∀ y ∈ x.ws, y.st < 18446744073709551616) (h5 : ∀ y ∈ x.ws, y.sent < 4294967296) : (s.set p x).Ok := by
  have e : ∀ (Q : Mk → Prop), Q x → (∀ i, Q (s.l i)) → ∀ i, Q ((s.set p x).l i) := fun Q a b i => by
    show Q (if i = p then x else s.l i)
    split
    · exact a
    · exact b i
  exact ⟨h.clock, h.oth, e (·.heard < 18446744073709551616) h1 h.heard, e (·.reached < 18446744073709551616) h2 h.reached, e (·.came < 4294967296) h3 h.came, e (fun m => ∀ y ∈ m.ws, y.st < 18446744073709551616) h4 h.st, e (fun m => ∀ y ∈ m.ws, y.sent < 4294967296) h5 h.sent⟩
theorem HS.reach_ok {s : HS} (h : s.Ok) (p : Int) {st : Nat} (hst : st < 18446744073709551616) : (s.reach p st).Ok := by
  rw [HS.reach]
  split
  · exact HS.set_ok h _ (h.heard _) (Nat.max_lt.2 ⟨h.reached _, hst⟩) (h.came _) (h.st _) (h.sent _)
  · exact h
theorem hasB_nat {x : Nat} {p : Int} (h : hasB x p = true) : ∃ n : Nat, p = n ∧ n < 64 := by
  rw [hasB_eq] at h
  simp only [Bool.and_eq_true, decide_eq_true_eq] at h
  exact ⟨p.toNat, by omega, by omega⟩

section
variable {B : Nat} {w : World} {O : Nat → Prop} {b : Nat} {s : HS} {vs : Nat → Value}
set_option maxHeartbeats 800000 in
set_option maxRecDepth 100000 in
theorem see_any (st : Nat) (hs : s.Ok) (hst : st < 18446744073709551616) (h : HorAt B w O b s vs) :
    Calls Tryd.prog 22 #[.pointer (some ⟨b, 0, none⟩), .int .u64 st] w fun e w' => e = .returned (.tuple #[]) ∧ HorAt B w' O b (s.see st) vs ∧ Kp b w w' := by
  have c0 := h.c0
  have f0 := h.fz 0
  have hK := fun v => (Kp.refl b w).setCell ⟨b, 0, none⟩ rfl v
  have hset := fun c : Nat => h.cells (t := { s with clock := c }) (hK (.int .u64 c)) (by have := h.blk.set 0 (.int .u64 c); rw [horC_clock] at this; exact this) (fun i => rfl)
  have hE := Lib.hid (show s.see st = { s with clock := max s.clock st } from rfl)
  by_cases hlt : s.clock < st
  · have hI : (s.clock : Int) < st := by omega
    have hm : max s.clock st = st := Nat.max_eq_right (by omega)
    rw [hm] at hE
    have HS := Lib.hid (hset st)
    have HK := Lib.hid (hK (.int .u64 st))
    clear hset hm hK
    go_enter Tryd.func22, Tryd.ntmps22
    go_wp2
    go_end0
    exact ⟨rfl, by rw [hE.out]; exact HS.out, HK.out⟩
  · have hI : ¬ (s.clock : Int) < st := by omega
    have hm : max s.clock st = s.clock := Nat.max_eq_left (by omega)
    rw [hm] at hE
    have HS := Lib.hid (hset s.clock)
    have HK := Lib.hid (hK (.int .u64 s.clock))
    clear hset hm hK
    go_enter Tryd.func22, Tryd.ntmps22
    go_wp2
    go_end0
    exact ⟨rfl, by rw [hE.out]; exact HS.out, HK.out⟩
set_option maxHeartbeats 800000 in
set_option maxRecDepth 100000 in
theorem clock_any (h : HorAt B w O b s vs) :
    Calls Tryd.prog 11 #[.pointer (some ⟨b, 0, none⟩)] w fun e w' => e = .returned (.int .u64 s.clock) ∧ w = w' := by
  have c0 := h.c0
  go_enter Tryd.func11, Tryd.ntmps11
  go_wp2
  go_ret
  exact ⟨rfl, rfl⟩
set_option maxHeartbeats 800000 in
set_option maxRecDepth 100000 in
theorem stamp_any (hs : s.Ok) (h : HorAt B w O b s vs) :
    Calls Tryd.prog 20 #[.pointer (some ⟨b, 0, none⟩)] w fun e w' => e = .returned (.int .u64 s.stamp.clock) ∧ HorAt B w' O b s.stamp vs ∧ Kp b w w' := by
  have c0 := h.c0
  have f0 := h.fz 0
  have hcl := hs.clock
  have hsum : sumI (s.clock : Int) 1 = (stampN s.clock : Nat) := by
    unfold sumI stampN
    split <;> split <;> omega
  have HC := Lib.hid (fun W => sum_any s.clock 1 W (by omega) (by omega) (by omega) (by omega))
  rw [hsum] at HC
  have hset := h.cells (t := s.stamp) ((Kp.refl b w).setCell ⟨b, 0, none⟩ rfl (.int .u64 (stampN s.clock))) (by have := h.blk.set 0 (.int .u64 (stampN s.clock)); rw [horC_clock] at this; exact this) (fun i => rfl)
  have HS := Lib.hid hset
  have HK := Lib.hid ((Kp.refl b w).setCell ⟨b, 0, none⟩ rfl (.int .u64 (stampN s.clock)))
  have HE := Lib.hid (show s.stamp.clock = stampN s.clock from rfl)
  generalize s.stamp = t at *
  clear hsum hset hcl
  generalize stampN s.clock = c at *
  go_enter Tryd.func20, Tryd.ntmps20
  go_wp2_with fail
  refine (HC.out _).mono ?_
  rintro e w' ⟨rfl, rfl⟩
  go_wp2
  go_ret
  exact ⟨by rw [HE.out]; rfl, HS.out, HK.out⟩
set_option maxHeartbeats 1600000 in
set_option maxRecDepth 100000 in
theorem reached_no (p : Int) (st : Nat) (hs : s.Ok) (h : HorAt B w O b s vs) (hh : hasB s.oth p = false) :
    Calls Tryd.prog 19 #[.pointer (some ⟨b, 0, none⟩), .int .i64 p, .int .u64 st] w fun e w' => e = .returned (.tuple #[]) ∧ w = w' := by
  have c1 := h.c1
  have HC := fun w => has_any s.oth p hs.oth w
  rw [hh] at HC
  have HC := Lib.hid HC
  go_enter Tryd.func19, Tryd.ntmps19
  go_wp2_with fail
  refine (HC.out _).mono ?_
  rintro e w' ⟨rfl, rfl⟩
  go_wp2
  go_end0
  exact ⟨rfl, rfl⟩
set_option maxHeartbeats 1600000 in
set_option maxRecDepth 100000 in
theorem reached_yes (p : Nat) (st : Nat) (hs : s.Ok) (h : HorAt B w O b s vs) (hp : p < 64) (hh : hasB s.oth p = true) :
    Calls Tryd.prog 19 #[.pointer (some ⟨b, 0, none⟩), .int .i64 p, .int .u64 st] w fun e w' => e = .returned (.tuple #[]) ∧ HorAt B w' O b (s.reach p st) vs ∧ Kp b w w' := by
  have c1 := h.c1
  obtain ⟨_, d1, _, _⟩ := h.mrk p hp
  have f1 := h.fz (2 + p * 4 + 1)
  have hpI : (p : Int) < 64 := by omega
  have HC := fun w => has_any s.oth p hs.oth w
  rw [hh] at HC
  have HC := Lib.hid HC
  have hK := fun v => (Kp.refl b w).setCell ⟨b, 2 + p * 4 + 1, none⟩ rfl v
  have hset := fun c : Nat => h.cells (t := s.set p { s.l p with reached := c }) (hK (.int .u64 c)) (by have := h.blk.set (2 + p * 4 + 1) (.int .u64 c); rw [horC_cell s vs p 1 hp (by decide) _ { s.l p with reached := c } rfl] at this; exact this) (fun i => by
    by_cases e : i = p
    · subst e; rw [HS.set_at]
    · rw [HS.set_ne _ _ _ e])
  have hE := Lib.hid (show s.reach p st = s.set p { s.l p with reached := max (s.l p).reached st } from by rw [HS.reach, if_pos hh]; rfl)
  generalize hr : (s.l p).reached = r at *
  clear hr hh
  by_cases hlt : r < st
  · have hI : (r : Int) < st := by omega
    have hm : max r st = st := Nat.max_eq_right (by omega)
    rw [hm] at hE
    have HS := Lib.hid (hset st)
    have HK := Lib.hid (hK (.int .u64 st))
    clear hset hm hK
    go_enter Tryd.func19, Tryd.ntmps19
    go_wp2_with fail
    refine (HC.out _).mono ?_
    rintro e w' ⟨rfl, rfl⟩
    go_wp2
    go_region
    go_end0
    exact ⟨rfl, by rw [hE.out]; exact HS.out.drew, HK.out.drew⟩
  · have hI : ¬ (r : Int) < st := by omega
    have hm : max r st = r := Nat.max_eq_left (by omega)
    rw [hm] at hE
    have HS := Lib.hid (hset r)
    have HK := Lib.hid (hK (.int .u64 r))
    clear hset hm hK
    go_enter Tryd.func19, Tryd.ntmps19
    go_wp2_with fail
    refine (HC.out _).mono ?_
    rintro e w' ⟨rfl, rfl⟩
    go_wp2
    go_region
    go_end0
    exact ⟨rfl, by rw [hE.out]; exact HS.out.drew, HK.out.drew⟩
end
end Go.Proofs.YtmhckkcppmfjpaaDoor
