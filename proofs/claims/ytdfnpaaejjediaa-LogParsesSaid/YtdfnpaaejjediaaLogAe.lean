/- log: the reference's taker: bad, num -/
import Derived.Test.YtdfnpaaejjediaaNumC
import Derived.Test.YtdfnpaaejjediaaLogL
namespace Go.Proofs.Ytdfnpaaejjediaa
open Go.RowKit

/-- A taker over s in block b, at p, with its first error. -/
structure Tk (w : World) (b : Nat) (s : ByteArray) (p : Nat) (e : Int) : Prop where
  blk : BlkAt w b 87 #[.string s, .int .i64 p, .int .i64 e]
def bE (e k : Int) (t : Bool) : Int := if t = true ∧ e = 0 then k else e
def gN (s : ByteArray) (p m : Nat) : Nat := if p + m ≤ s.size then nvN (bI s) p m else 0
def nE (s : ByteArray) (p m : Nat) (e : Int) : Int := bE e 2 (!decide (p + m ≤ s.size))
section
variable {w w' : World} {b : Nat} {s : ByteArray} {p : Nat} {e : Int}
theorem Tk.kp {c : Nat} (h : Tk w b s p e) (k : Kp c w w') (hc : b ≠ c) : Tk w' b s p e := ⟨k.blk h.blk hc⟩
theorem Tk.below {B : Nat} (h : Tk w b s p e) (k : Below B w w') (hB : b < B) : Tk w' b s p e := ⟨h.blk.below k hB⟩
theorem Tk.drewN (h : Tk w b s p e) (n : Nat) : Tk (w.drewN n) b s p e := ⟨h.blk.drewN n⟩
theorem Tk.lt (h : Tk w b s p e) : b < w.heap.size := h.blk.lt
set_option maxHeartbeats 800000 in
set_option maxRecDepth 100000 in
theorem tbad_any (k : Int) (t : Bool) (h : Tk w b s p e) :
    Calls Try.prog 40 #[.pointer (some ⟨b, 0, none⟩), .int .i64 k, .bool t] w fun x w' => x = .returned (.tuple #[]) ∧ Tk w' b s p (bE e k t) ∧ Kp b w w' ∧ w'.heap.size = w.heap.size := by
  have c2 := h.blk.cell (i := 2) rfl
  have f2 := h.blk.fz 2
  cases t with
  | false =>
    go_enter Try.func40, Try.ntmps40
    go_wp2
    go_end0
    exact ⟨rfl, by rw [bE, if_neg (by simp)]; exact h, Kp.refl _ _, rfl⟩
  | true =>
    by_cases he : e = 0
    · subst he
      go_enter Try.func40, Try.ntmps40
      go_wp2
      go_end0
      exact ⟨rfl, ⟨by rw [bE, if_pos ⟨rfl, rfl⟩]; exact h.blk.set 2 _⟩, (Kp.refl b w).setCell ⟨b, 2, none⟩ rfl _, by simp [World.setCell]⟩
    · go_enter Try.func40, Try.ntmps40
      go_wp2
      go_end0
      exact ⟨rfl, by rw [bE, if_neg (fun h => he h.2)]; exact h, Kp.refl _ _, rfl⟩
theorem rget_any (s : ByteArray) (p m : Nat) (w : World) (h1 : 1 ≤ m) (h2 : m ≤ 8) (hz : s.size ≤ 5000) :
    Calls Try.prog 53 #[.string s, .int .i64 p, .int .i64 m] w fun x w' => x = .returned (.tuple #[.int .u64 (gN s p m : Nat), .bool (decide (p + m ≤ s.size))]) ∧ w = w' := by
  by_cases h : p + m ≤ s.size
  · refine (rget_yes s p m w h1 h2 h (by omega)).mono ?_
    rintro x w' ⟨rfl, rfl⟩
    rw [nv_extract, ← nvN_cast (bI_mem s), gN, if_pos h, decide_eq_true h]
    exact ⟨rfl, rfl⟩
  · refine (rget_no s p m w (by omega) (by omega)).mono ?_
    rintro x w' ⟨rfl, rfl⟩
    rw [gN, if_neg h, decide_eq_false h]
    exact ⟨rfl, rfl⟩
set_option maxHeartbeats 800000 in
set_option maxRecDepth 100000 in
theorem tnum_any (m : Nat) (h1 : 1 ≤ m) (h2 : m ≤ 8) (h : Tk w b s p e) (hz : s.size ≤ 5000) (hp : p ≤ 100000) :
    Calls Try.prog 39 #[.pointer (some ⟨b, 0, none⟩), .int .i64 m] w fun x w' => x = .returned (.int .u64 (gN s p m : Nat)) ∧ Tk w' b s (p + m) (nE s p m e) ∧ Kp b w w' := by
  have c0 := h.blk.cell (i := 0) rfl
  have c1 := h.blk.cell (i := 1) rfl
  have hb := h.lt
  have hG := Lib.hid (fun W => rget_any s p m W h1 h2 hz)
  have hB := Lib.hid (fun (w : World) (t : Bool) (h : Tk w b s p e) => tbad_any (k := 2) t h)
  have hnE := Lib.hid (show nE s p m e = bE e 2 (!decide (p + m ≤ s.size)) from rfl)
  generalize decide (p + m ≤ s.size) = ok at *
  have hwp : IntKind.i64.wrap ((p : Int) + m) = p + m := by rw [IntKind.wrap_i64]; omega
  generalize gN s p m = g at *
  go_enter Try.func39, Try.ntmps39
  go_wp2
  go_quiet ((go_at_call 53; exact qS (hG.out _)))
  go_wp2_with fail
  have hd := h.drewN nq
  have kd := (Kp.refl b w).drewN nq
  refine (hB.out _ _ hd).mono ?_
  rintro e' w' ⟨rfl, h2, k2, _⟩
  rw [← hnE.out] at h2
  have c0 := h2.blk.cell (i := 1) rfl
  have f0 := h2.blk.fz 1
  have k3 := kd.trans k2
  clear h hd kd k2 hB hG c1 hnE
  go_wp2
  go_ret
  exact ⟨rfl, ⟨by have := h2.blk.set 1 (.int .i64 ((p + m : Nat) : Int)); exact this⟩, k3.setCell _ rfl _⟩
end
end Go.Proofs.Ytdfnpaaejjediaa
