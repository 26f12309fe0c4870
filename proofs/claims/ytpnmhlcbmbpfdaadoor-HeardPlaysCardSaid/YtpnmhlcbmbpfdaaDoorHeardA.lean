/- the ear of package heard: its state, its cells, the walks of its small methods -/
import Derived.Test.YtpnmhlcbmbpfdaaDoorSetB
import Derived.Test.YtpnmhlcbmbpfdaaDoorRow
import Derived.Test.YtpnmhlcbmbpfdaaDoorQui
import Derived.StillTailTactics
import Derived.RegionTactic
import Derived.BigRegion
namespace Go.Proofs.YtpnmhlcbmbpfdaaDoor
open Go.RowKit Go.Sort

/-- A beat; an entry; an ear. -/
structure Bt where
  ce : Nat
  cr : Int
  pe : Nat
  pr : Int
  ep : Nat
def Bt.zero : Bt := ⟨0, 0, 0, 0, 0⟩
structure En where
  b : Bt
  said : Bool
  ever : Bool
  at_ : Nat
def En.zero : En := ⟨.zero, false, false, 0⟩
structure ES where
  me : Int
  timeout : Int
  now : Nat
  oth : Nat
  l : Nat → En
def btC (x : Bt) : List Value := [.int .u64 x.ce, .int .i64 x.cr, .int .u64 x.pe, .int .i64 x.pr, .int .u64 x.ep]
def enC (x : En) : List Value := [.int .u64 x.b.ce, .int .i64 x.b.cr, .int .u64 x.b.pe, .int .i64 x.b.pr, .int .u64 x.b.ep, .bool x.said, .bool x.ever, .int .i64 x.at_]
theorem enC_len (x : En) : (enC x).length = 8 := rfl
def ES.pre (s : ES) : List Value := [.int .i64 s.me, .int .i64 s.timeout, .int .i64 s.now, .int .u64 s.oth]
def earC (s : ES) : Array Value := rowC s.pre (fun i => enC (s.l i)) 64
theorem earC_size (s : ES) : (earC s).size = 516 := (rowC_size (pre := s.pre) (f := fun i => enC (s.l i)) (n := 64) (sz := 8) (fun _ => rfl)).trans rfl
theorem earC_one (s : ES) : (earC s).all (·.oneCell') = true := rowC_one rfl (fun _ => rfl)
def ES.set (s : ES) (p : Nat) (x : En) : ES := { s with l := fun k => if k = p then x else s.l k }
def EarAt (w : World) (b : Nat) (s : ES) : Prop := BlkAt w b 66 (earC s)
section
variable {w w' : World} {b : Nat} {s : ES}
theorem EarAt.lt (h : EarAt w b s) : b < w.heap.size := BlkAt.lt h
theorem EarAt.below {B : Nat} (h : EarAt w b s) (k : Below B w w') (hb : b < B) : EarAt w' b s := BlkAt.below h k hb
theorem EarAt.c0 (h : EarAt w b s) : w.cell? ⟨b, 0, none⟩ = some (.int .i64 s.me) := BlkAt.cell h (rowC_pre rfl)
theorem EarAt.c1 (h : EarAt w b s) : w.cell? ⟨b, 1, none⟩ = some (.int .i64 s.timeout) := BlkAt.cell h (rowC_pre rfl)
theorem EarAt.c2 (h : EarAt w b s) : w.cell? ⟨b, 2, none⟩ = some (.int .i64 s.now) := BlkAt.cell h (rowC_pre rfl)
theorem EarAt.c3 (h : EarAt w b s) : w.cell? ⟨b, 3, none⟩ = some (.int .u64 s.oth) := BlkAt.cell h (rowC_pre rfl)
theorem EarAt.cj (h : EarAt w b s) (i j : Nat) (hi : i < 64) (hj : j < 8) {v : Value} (hv : (enC (s.l i))[j]? = some v) : w.cell? ⟨b, 4 + i * 8 + j, none⟩ = some v :=
  BlkAt.cell h ((rowC_at (f := fun i => enC (s.l i)) (fun _ => rfl) hi hj).trans hv)
theorem EarAt.en (h : EarAt w b s) (i : Nat) (hi : i < 64) : w.cell? ⟨b, 4 + i * 8, none⟩ = some (.int .u64 (s.l i).b.ce) ∧ w.cell? ⟨b, 4 + i * 8 + 1, none⟩ = some (.int .i64 (s.l i).b.cr) ∧ w.cell? ⟨b, 4 + i * 8 + 2, none⟩ = some (.int .u64 (s.l i).b.pe) ∧ w.cell? ⟨b, 4 + i * 8 + 3, none⟩ = some (.int .i64 (s.l i).b.pr) ∧ w.cell? ⟨b, 4 + i * 8 + 4, none⟩ = some (.int .u64 (s.l i).b.ep) ∧ w.cell? ⟨b, 4 + i * 8 + 5, none⟩ = some (.bool (s.l i).said) ∧ w.cell? ⟨b, 4 + i * 8 + 6, none⟩ = some (.bool (s.l i).ever) ∧ w.cell? ⟨b, 4 + i * 8 + 7, none⟩ = some (.int .i64 (s.l i).at_) :=
  ⟨h.cj i 0 hi (by decide) rfl, h.cj i 1 hi (by decide) rfl, h.cj i 2 hi (by decide) rfl, h.cj i 3 hi (by decide) rfl, h.cj i 4 hi (by decide) rfl, h.cj i 5 hi (by decide) rfl, h.cj i 6 hi (by decide) rfl, h.cj i 7 hi (by decide) rfl⟩
theorem EarAt.drew (h : EarAt w b s) : EarAt w.drew b s := BlkAt.drew h
theorem EarAt.fz (h : EarAt w b s) (i : Nat) : w.frozen? ⟨b, i, none⟩ = false := BlkAt.fz h i
end
structure ES.Ok (s : ES) : Prop where
  oth : s.oth < 18446744073709551616
  now : s.now ≤ 1000000000000
  at_ : ∀ i, (s.l i).at_ ≤ s.now
def ES.tick (s : ES) : ES := { s with now := s.now + 1 }
def ES.hear (s : ES) (p : Int) : ES := if hasB s.oth p = true then s.set p.toNat { s.l p.toNat with ever := true, at_ := s.now } else s
def ES.beat (s : ES) (p : Int) (b : Bt) : ES := if hasB s.oth p = true then s.set p.toNat { b := b, said := true, ever := true, at_ := s.now } else s
theorem ES.set_set (s : ES) (p : Nat) (x y : En) : (s.set p x).set p y = s.set p y := by
  unfold ES.set
  congr 1
  funext k
  dsimp only; split <;> rfl
def ES.of (s : ES) (p : Int) : Bt × Bool := if hasB s.oth p = true ∧ (s.l p.toNat).said = true then ((s.l p.toNat).b, true) else (.zero, false)
def ES.lately (s : ES) (i : Nat) : Bool := (s.l i).ever && decide ((s.now : Int) - (s.l i).at_ ≤ s.timeout)
def reachL (s : ES) (l : List Nat) : Nat := l.foldl (fun a p => if s.lately p = true then a ||| bitN p else a) (bitN s.me)
theorem reachL_snoc (s : ES) (l : List Nat) (p : Nat) : reachL s (l ++ [p]) = if s.lately p = true then reachL s l ||| bitN p else reachL s l := by rw [reachL, List.foldl_append]; rfl
def ES.reach (s : ES) : Nat := reachL s (memN s.oth)
def En.gone (x : En) : En := { x with said := false, b := .zero }
def forgL (s : ES) (l : List Nat) : ES := l.foldl (fun s p => s.set p (s.l p).gone) s
theorem forgL_snoc (s : ES) (l : List Nat) (p : Nat) : forgL s (l ++ [p]) = (forgL s l).set p ((forgL s l).l p).gone := by rw [forgL, List.foldl_append]; rfl
theorem forgL_oth (s : ES) (l : List Nat) : (forgL s l).oth = s.oth := by
  induction l generalizing s with
  | nil => rfl
  | cons p l ih => exact (ih (s.set p (s.l p).gone)).trans rfl
def ES.forget (s : ES) (x : Nat) : ES := forgL s (memN (x &&& s.oth))
def Bt.top (x : Bt) (n : Nat) : Nat := max (max (max n x.ep) x.ce) x.pe
def epL (s : ES) (k : Nat) : Nat := (List.range k).foldl (fun n i => (s.l i).b.top n) 0
theorem epL_succ (s : ES) (k : Nat) : epL s (k + 1) = (s.l k).b.top (epL s k) := by rw [epL, List.range_succ, List.foldl_append]; rfl
def ES.epoch (s : ES) : Nat := epL s 64
def ES.odd (s : ES) (ce : Nat) (cr : Int) (i : Nat) : Bool := (s.l i).said && !decide ((s.l i).b.pe = ce ∧ (s.l i).b.pr = cr)
def strL (s : ES) (ce : Nat) (cr : Int) (l : List Nat) : Nat := l.foldl (fun a p => if s.odd ce cr p = true then a ||| bitN p else a) 0
theorem strL_snoc (s : ES) (ce : Nat) (cr : Int) (l : List Nat) (p : Nat) : strL s ce cr (l ++ [p]) = if s.odd ce cr p = true then strL s ce cr l ||| bitN p else strL s ce cr l := by rw [strL, List.foldl_append]; rfl
def ES.strange (s : ES) (x ce : Nat) (cr : Int) : Nat := strL s ce cr (memN (x &&& s.oth))
def ES.nw (me n timeout : Int) : ES := ⟨me, timeout, 0, butN (allN n) (bitN me), fun _ => .zero⟩
def ES.zero : ES := ⟨0, 0, 0, 0, fun _ => .zero⟩
theorem earC_now (s : ES) : (earC s).setIfInBounds 2 (.int .i64 ((s.now : Int) + 1)) = earC s.tick := (rowC_set_pre (by simp [ES.pre]) _).trans rfl
theorem earC_set (s : ES) (p j : Nat) (hp : p < 64) (hj : j < 8) (v : Value) (x : En) (hx : (enC (s.l p)).set j v = enC x) : (earC s).setIfInBounds (4 + p * 8 + j) v = earC (s.set p x) := by
  refine (rowC_set_at (pre := s.pre) (f := fun i => enC (s.l i)) (fun _ => rfl) hp hj v).trans ?_
  show rowC s.pre _ 64 = rowC s.pre _ 64
  refine rowC_congr fun i _ => ?_
  show (if i = p then _ else _) = enC (if i = p then x else s.l i)
  split
  · exact hx
  · rfl
theorem earC_set0 (s : ES) (p : Nat) (hp : p < 64) (v : Value) (x : En) (hx : (enC (s.l p)).set 0 v = enC x) : (earC s).setIfInBounds (4 + p * 8) v = earC (s.set p x) := earC_set s p 0 hp (by decide) v x hx
theorem hasB_nat {x : Nat} {p : Int} (h : hasB x p = true) : ∃ n : Nat, p = n ∧ n < 64 := by
  rw [hasB_eq] at h
  simp only [Bool.and_eq_true, decide_eq_true_eq] at h
  exact ⟨p.toNat, by omega, by omega⟩

set_option maxHeartbeats 800000 in
set_option maxRecDepth 100000 in
theorem tick_any (s : ES) (hs : s.Ok) (b : Nat) (w : World) (h : EarAt w b s) :
    Calls Tryd.prog 9 #[.pointer (some ⟨b, 0, none⟩)] w fun e w' => e = .returned (.tuple #[]) ∧ EarAt w' b s.tick ∧ Kp b w w' := by
  have c2 := h.c2
  have fz := h.fz 2
  have hn := hs.now
  have hset := BlkAt.set h 2 (.int .i64 ((s.now : Int) + 1))
  rw [earC_now] at hset
  have HS := Lib.hid hset
  have HK := Lib.hid ((Kp.refl b w).setCell ⟨b, 2, none⟩ rfl (.int .i64 ((s.now : Int) + 1)))
  clear hset
  go_enter Tryd.func9, Tryd.ntmps9
  go_wp2
  go_end0
  exact ⟨rfl, HS.out, HK.out⟩
set_option maxHeartbeats 800000 in
set_option maxRecDepth 100000 in
theorem hear_no (s : ES) (hs : s.Ok) (p : Int) (b : Nat) (w : World) (h : EarAt w b s) (hh : hasB s.oth p = false) :
    Calls Tryd.prog 10 #[.pointer (some ⟨b, 0, none⟩), .int .i64 p] w fun e w' => e = .returned (.tuple #[]) ∧ w = w' := by
  have c3 := h.c3
  have HC := fun w => has_any s.oth p hs.oth w
  rw [hh] at HC
  have HC := Lib.hid HC
  go_enter Tryd.func10, Tryd.ntmps10
  go_wp2_with (first | (go_at_call 22; refine (HC.out _).mono ?_; rintro e w' ⟨rfl, rfl⟩))
  go_end0
  exact ⟨rfl, rfl⟩
set_option maxHeartbeats 1600000 in
set_option maxRecDepth 100000 in
theorem hear_yes (s : ES) (hs : s.Ok) (p : Nat) (b : Nat) (w : World) (h : EarAt w b s) (hp : p < 64) (hh : hasB s.oth p = true) :
    Calls Tryd.prog 10 #[.pointer (some ⟨b, 0, none⟩), .int .i64 p] w fun e w' => e = .returned (.tuple #[]) ∧ EarAt w' b (s.hear p) ∧ Kp b w w' := by
  have c2 := h.c2
  have c3 := h.c3
  obtain ⟨_, _, _, _, _, _, c6, c7⟩ := h.en p hp
  have f6 := h.fz (4 + p * 8 + 6)
  have f7 := h.fz (4 + p * 8 + 7)
  have HC := fun w => has_any s.oth p hs.oth w
  rw [hh] at HC
  have HC := Lib.hid HC
  have HE := Lib.hid (show s.hear p = s.set p { s.l p with ever := true, at_ := s.now } from by rw [ES.hear, if_pos hh]; rfl)
  have hpI : (p : Int) < 64 := by omega
  have hset := BlkAt.set h (4 + p * 8 + 6) (.bool true)
  rw [earC_set s p 6 hp (by decide) _ { s.l p with ever := true } rfl] at hset
  have hset2 := BlkAt.set hset (4 + p * 8 + 7) (.int .i64 s.now)
  rw [earC_set (s.set p _) p 7 hp (by decide) _ { s.l p with ever := true, at_ := s.now } (by simp [ES.set, enC]), ES.set_set] at hset2
  have HS := Lib.hid hset2
  have HK := Lib.hid (((Kp.refl b w).setCell ⟨b, 4 + p * 8 + 6, none⟩ rfl (.bool true)).setCell ⟨b, 4 + p * 8 + 7, none⟩ rfl (.int .i64 s.now))
  clear hh hset hset2
  go_enter Tryd.func10, Tryd.ntmps10
  go_wp2_with (first | (go_at_call 22; refine (HC.out _).mono ?_; rintro e w' ⟨rfl, rfl⟩))
  go_region
  go_end0
  exact ⟨rfl, by rw [HE.out]; exact HS.out.drew, HK.out.drew⟩
theorem hear_any (s : ES) (hs : s.Ok) (p : Int) (b : Nat) (w : World) (h : EarAt w b s) :
    Calls Tryd.prog 10 #[.pointer (some ⟨b, 0, none⟩), .int .i64 p] w fun e w' => e = .returned (.tuple #[]) ∧ EarAt w' b (s.hear p) ∧ Kp b w w' := by
  cases hh : hasB s.oth p with
  | false =>
    refine (hear_no s hs p b w h hh).mono ?_
    rintro e w' ⟨rfl, rfl⟩
    rw [ES.hear, if_neg (by rw [hh]; decide)]
    exact ⟨rfl, h, Kp.refl _ _⟩
  | true =>
    obtain ⟨n, rfl, hn⟩ := hasB_nat hh
    exact hear_yes s hs n b w h hn hh
theorem ES.hear_ok {s : ES} (hs : s.Ok) (p : Int) : (s.hear p).Ok := by
  rw [ES.hear]
  split
  · refine ⟨hs.oth, hs.now, fun i => ?_⟩
    show (if i = p.toNat then _ else s.l i).at_ ≤ s.now
    split
    · exact Nat.le_refl _
    · exact hs.at_ i
  · exact hs
theorem ES.beat_ok {s : ES} (hs : s.Ok) (p : Int) (b : Bt) : (s.beat p b).Ok := by
  rw [ES.beat]
  split
  · refine ⟨hs.oth, hs.now, fun i => ?_⟩
    show (if i = p.toNat then _ else s.l i).at_ ≤ s.now
    split
    · exact Nat.le_refl _
    · exact hs.at_ i
  · exact hs
theorem ES.tick_ok {s : ES} (hs : s.Ok) (h : s.now < 1000000000000) : s.tick.Ok := ⟨hs.oth, h, fun i => Nat.le_succ_of_le (hs.at_ i)⟩
theorem ES.set_ok {s : ES} (hs : s.Ok) (p : Nat) (x : En) (h : x.at_ ≤ s.now) : (s.set p x).Ok := by
  refine ⟨hs.oth, hs.now, fun i => ?_⟩
  show (if i = p then x else s.l i).at_ ≤ s.now
  split
  · exact h
  · exact hs.at_ i
theorem forgL_ok (l : List Nat) : ∀ {s : ES}, s.Ok → (forgL s l).Ok := by
  induction l with
  | nil => intro s h; exact h
  | cons p l ih => intro s h; exact ih (ES.set_ok h p _ (h.at_ p))
/-- Six cells of an entry are set: its truth, and its beat. -/
theorem EarAt.six {w : World} {b : Nat} {s : ES} (h : EarAt w b s) (p : Nat) (hp : p < 64) (x : Bt) (t : Bool) :
    EarAt ((((((w.setCell ⟨b, 4 + p * 8 + 5, none⟩ (.bool t)).setCell ⟨b, 4 + p * 8, none⟩ (.int .u64 x.ce)).setCell ⟨b, 4 + p * 8 + 1, none⟩ (.int .i64 x.cr)).setCell ⟨b, 4 + p * 8 + 2, none⟩ (.int .u64 x.pe)).setCell ⟨b, 4 + p * 8 + 3, none⟩ (.int .i64 x.pr)).setCell ⟨b, 4 + p * 8 + 4, none⟩ (.int .u64 x.ep)) b (s.set p { s.l p with said := t, b := x }) := by
  have h5 := BlkAt.set h (4 + p * 8 + 5) (.bool t)
  rw [earC_set s p 5 hp (by decide) _ { s.l p with said := t } rfl] at h5
  have h0 := BlkAt.set h5 (4 + p * 8) (.int .u64 x.ce)
  rw [earC_set0 (s.set p _) p hp _ { s.l p with said := t, b := { (s.l p).b with ce := x.ce } } (by simp [ES.set, enC])] at h0
  have h1 := BlkAt.set h0 (4 + p * 8 + 1) (.int .i64 x.cr)
  rw [earC_set (ES.set _ p _) p 1 hp (by decide) _ { s.l p with said := t, b := { (s.l p).b with ce := x.ce, cr := x.cr } } (by simp [ES.set, enC])] at h1
  have h2 := BlkAt.set h1 (4 + p * 8 + 2) (.int .u64 x.pe)
  rw [earC_set (ES.set _ p _) p 2 hp (by decide) _ { s.l p with said := t, b := { (s.l p).b with ce := x.ce, cr := x.cr, pe := x.pe } } (by simp [ES.set, enC])] at h2
  have h3 := BlkAt.set h2 (4 + p * 8 + 3) (.int .i64 x.pr)
  rw [earC_set (ES.set _ p _) p 3 hp (by decide) _ { s.l p with said := t, b := { (s.l p).b with ce := x.ce, cr := x.cr, pe := x.pe, pr := x.pr } } (by simp [ES.set, enC])] at h3
  have h4 := BlkAt.set h3 (4 + p * 8 + 4) (.int .u64 x.ep)
  rw [earC_set (ES.set _ p _) p 4 hp (by decide) _ { s.l p with said := t, b := x } (by simp [ES.set, enC])] at h4
  simp only [ES.set_set] at h4
  exact h4
theorem Kp.six {w0 w : World} {b : Nat} (h : Kp b w0 w) (a1 a2 a3 a4 a5 a6 : Addr) (v1 v2 v3 v4 v5 v6 : Value) (e1 : a1.block = b) (e2 : a2.block = b) (e3 : a3.block = b) (e4 : a4.block = b) (e5 : a5.block = b) (e6 : a6.block = b) :
    Kp b w0 ((((((w.setCell a1 v1).setCell a2 v2).setCell a3 v3).setCell a4 v4).setCell a5 v5).setCell a6 v6) :=
  (((((h.setCell _ e1 _).setCell _ e2 _).setCell _ e3 _).setCell _ e4 _).setCell _ e5 _).setCell _ e6 _
set_option maxHeartbeats 800000 in
set_option maxRecDepth 100000 in
theorem beat_no (s : ES) (hs : s.Ok) (p : Int) (x : Bt) (b : Nat) (w : World) (h : EarAt w b s) (hh : hasB s.oth p = false) :
    Calls Tryd.prog 12 #[.pointer (some ⟨b, 0, none⟩), .int .i64 p, .agg #[.int .u64 x.ce, .int .i64 x.cr, .int .u64 x.pe, .int .i64 x.pr, .int .u64 x.ep]] w fun e w' => e = .returned (.tuple #[]) ∧ Below w.heap.size w w' := by
  have hbel : Below w.heap.size w (w.alloc (.cells #[.int .u64 x.ce, .int .i64 x.cr, .int .u64 x.pe, .int .i64 x.pr, .int .u64 x.ep] 33)) := (Below.refl _ _).alloc (Nat.le_refl _) _
  have h1 := h.below hbel h.lt
  have c3 := h1.c3
  have HC := fun w => has_any s.oth p hs.oth w
  rw [hh] at HC
  have HC := Lib.hid HC
  have HH := Lib.hid (fun w h => hear_no s hs p b w h hh)
  go_enter Tryd.func12, Tryd.ntmps12
  go_wp2_with (first
    | (go_at_call 10; refine (HH.out _ h1).mono ?_; rintro e w' ⟨rfl, rfl⟩)
    | (go_at_call 22; refine (HC.out _).mono ?_; rintro e w' ⟨rfl, rfl⟩))
  go_end0
  exact ⟨rfl, hbel⟩
set_option maxHeartbeats 1600000 in
set_option maxRecDepth 100000 in
theorem beat_yes (s : ES) (hs : s.Ok) (p : Nat) (x : Bt) (b : Nat) (w : World) (h : EarAt w b s) (hp : p < 64) (hh : hasB s.oth p = true) :
    Calls Tryd.prog 12 #[.pointer (some ⟨b, 0, none⟩), .int .i64 p, .agg #[.int .u64 x.ce, .int .i64 x.cr, .int .u64 x.pe, .int .i64 x.pr, .int .u64 x.ep]] w fun e w' => e = .returned (.tuple #[]) ∧ EarAt w' b (s.beat p x) ∧ Kp b w w' := by
  have hbel : Below w.heap.size w (w.alloc (.cells #[.int .u64 x.ce, .int .i64 x.cr, .int .u64 x.pe, .int .i64 x.pr, .int .u64 x.ep] 33)) := (Below.refl _ _).alloc (Nat.le_refl _) _
  have h1 := h.below hbel h.lt
  have hA := BlkAt.new w 33 #[.int .u64 x.ce, .int .i64 x.cr, .int .u64 x.pe, .int .i64 x.pr, .int .u64 x.ep]
  have hne : w.heap.size ≠ b := by have := h.lt; omega
  have HH := Lib.hid (fun w h => hear_yes s hs p b w h hp hh)
  have HC := fun w => has_any s.oth p hs.oth w
  rw [hh] at HC
  have HC := Lib.hid HC
  have HE := Lib.hid (show (s.hear p).set p { (s.hear p).l p with said := true, b := x } = s.beat p x from by rw [ES.hear, if_pos hh, ES.beat, if_pos hh, Int.toNat_natCast, ES.set_set]; simp [ES.set])
  have HO := Lib.hid (show (s.hear p).oth = s.oth from by rw [ES.hear, if_pos hh]; rfl)
  have HK0 := Kp.ofBelow (b := b) hbel
  have hpI : (p : Int) < 64 := by omega
  generalize s.hear p = t at *
  clear hh hbel
  go_enter Tryd.func12, Tryd.ntmps12
  go_wp2_with fail
  refine (HH.out _ h1).mono ?_
  rintro e w1 ⟨rfl, he, hk⟩
  have c3 := he.c3
  rw [HO.out] at c3
  replace hA := hk.blk hA hne
  have b0 := hA.cell (i := 0) rfl
  have b1 := hA.cell (i := 1) rfl
  have b2 := hA.cell (i := 2) rfl
  have b3 := hA.cell (i := 3) rfl
  have b4 := hA.cell (i := 4) rfl
  obtain ⟨d0, d1, d2, d3, d4, d5, _, _⟩ := he.en p hp
  have f0 := he.fz (4 + p * 8)
  have f1 := he.fz (4 + p * 8 + 1)
  have f2 := he.fz (4 + p * 8 + 2)
  have f3 := he.fz (4 + p * 8 + 3)
  have f4 := he.fz (4 + p * 8 + 4)
  have f5 := he.fz (4 + p * 8 + 5)
  have H6 := Lib.hid (he.six p hp x true)
  have K6 := Lib.hid ((HK0.trans hk).six ⟨b, 4 + p * 8 + 5, none⟩ ⟨b, 4 + p * 8, none⟩ ⟨b, 4 + p * 8 + 1, none⟩ ⟨b, 4 + p * 8 + 2, none⟩ ⟨b, 4 + p * 8 + 3, none⟩ ⟨b, 4 + p * 8 + 4, none⟩ (.bool true) (.int .u64 x.ce) (.int .i64 x.cr) (.int .u64 x.pe) (.int .i64 x.pr) (.int .u64 x.ep) rfl rfl rfl rfl rfl rfl)
  go_wp2_with (first
    | (go_at_call 22; refine (HC.out _).mono ?_; rintro e w' ⟨rfl, rfl⟩))
  go_region
  go_end0
  exact ⟨rfl, by rw [← HE.out]; exact H6.out.drew, K6.out.drew⟩
theorem beat_any (s : ES) (hs : s.Ok) (p : Int) (x : Bt) (b : Nat) (w : World) (h : EarAt w b s) :
    Calls Tryd.prog 12 #[.pointer (some ⟨b, 0, none⟩), .int .i64 p, .agg #[.int .u64 x.ce, .int .i64 x.cr, .int .u64 x.pe, .int .i64 x.pr, .int .u64 x.ep]] w fun e w' => e = .returned (.tuple #[]) ∧ EarAt w' b (s.beat p x) ∧ Kp b w w' := by
  cases hh : hasB s.oth p with
  | false =>
    refine (beat_no s hs p x b w h hh).mono ?_
    rintro e w' ⟨rfl, hb⟩
    rw [ES.beat, if_neg (by rw [hh]; decide)]
    exact ⟨rfl, h.below hb h.lt, Kp.ofBelow hb⟩
  | true =>
    obtain ⟨n, rfl, hn⟩ := hasB_nat hh
    exact beat_yes s hs n x b w h hn hh
theorem Tryd.earI (s : ES) : (Tryd.prog.info? 66).map (·.size) = some (earC s).size := by rw [earC_size]; kernel_rfl
theorem Tryd.earB (me timeout : Int) (oth : Nat) : Tryd.prog.built 66 [(0, .int .i64 me), (1, .int .i64 timeout), (3, .int .u64 oth)] = some (earC ⟨me, timeout, 0, oth, fun _ => .zero⟩) := by kernel_rfl
set_option maxHeartbeats 800000 in
set_option maxRecDepth 100000 in
theorem ear_new (me n timeout : Int) (w : World) :
    Calls Tryd.prog 8 #[.int .i64 me, .int .i64 n, .int .i64 timeout] w fun e w' => ∃ b, e = .returned (.pointer (some ⟨b, 0, none⟩)) ∧ w.heap.size ≤ b ∧ EarAt w' b (ES.nw me n timeout) ∧ Below w.heap.size w w' := by
  have HL := fun w : World => less_any (allN n) 1 1 (some ⟨w.heap.size, 0, none⟩) [me] (w.alloc (.cells #[.int .i64 me] 3)) (allN_lt n) (by decide) (Rd.one rfl)
  rw [show withN 0 [me] = bitN me from by simp [withN]] at HL
  have HL := Lib.hid HL
  have HA := Lib.hid (fun W => allS_any n W)
  have HN := Lib.hid (show ES.nw me n timeout = ⟨me, timeout, 0, butN (allN n) (bitN me), fun _ => .zero⟩ from rfl)
  generalize allN n = x at *
  go_enter Tryd.func8, Tryd.ntmps8
  go_wp2_with (first
    | (go_at_call 26; refine (HA.out _).mono ?_; rintro e w' ⟨rfl, rfl⟩)
    | (go_at_call 27; refine (HL.out _).mono ?_; rintro e w' ⟨rfl, rfl⟩)
    | (refine wpList_blk_build (cs := earC ⟨me, timeout, 0, butN x (bitN me), fun _ => .zero⟩) rfl #[(0, .tmp 7), (1, .tmp 8), (3, .tmp 13)] rfl (by rw [List.map_toArray]; exact Tryd.earB me timeout (butN x (bitN me))) ?_)
    | (refine wpList_blk_box rfl (.tmp 14) rfl rfl (w.heap.size + 1) (by simp) ?_))
  go_ret
  refine ⟨_, rfl, Nat.le_succ _, ?_, ((Below.refl _ _).alloc (Nat.le_refl _) _).alloc (by simp) _⟩
  rw [HN.out]
  unfold EarAt
  simpa using BlkAt.new (w.alloc (.cells #[.int .i64 me] 3)) 66 _
end Go.Proofs.YtpnmhlcbmbpfdaaDoor
