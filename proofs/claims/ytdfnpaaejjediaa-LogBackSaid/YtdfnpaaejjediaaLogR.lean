/- log: walks of num.Reader (without At) -/
import Derived.Test.YtdfnpaaejjediaaNumB
import Derived.Deep.QuietTactic
import Derived.BigQuiet
namespace Go.Proofs.Ytdfnpaaejjediaa
open Go.RowKit

/-- All but block b is kept. -/
structure Keep (b : Nat) (w w' : World) : Prop where
  os : w'.os = w.os
  tape : w'.tape = w.tape
  output : w'.output = w.output
  size : w.heap.size ≤ w'.heap.size
  block : ∀ k, k < w.heap.size → k ≠ b → w'.heap[k]? = w.heap[k]?
theorem Keep.refl (b : Nat) (w : World) : Keep b w w := ⟨rfl, rfl, rfl, Nat.le_refl _, fun _ _ _ => rfl⟩
theorem Keep.trans {b : Nat} {x y z : World} (h : Keep b x y) (k : Keep b y z) : Keep b x z :=
  ⟨k.os.trans h.os, k.tape.trans h.tape, k.output.trans h.output, Nat.le_trans h.size k.size, fun i hi hb => (k.block i (Nat.lt_of_lt_of_le hi h.size) hb).trans (h.block i hi hb)⟩
theorem Keep.ofBelow {b : Nat} {w w' : World} (h : Below w.heap.size w w') : Keep b w w' := ⟨h.os, h.tape, h.output, h.size, fun i hi _ => h.block i hi⟩
theorem Keep.drewN {b : Nat} {x y : World} (h : Keep b x y) (n : Nat) : Keep b x (y.drewN n) := ⟨h.os, h.tape, h.output, h.size, h.block⟩
theorem Keep.setCell {b : Nat} {x y : World} (h : Keep b x y) (a : Addr) (ha : a.block = b) (u : Value) : Keep b x (y.setCell a u) :=
  h.trans ⟨rfl, rfl, rfl, by simp [World.setCell], fun k _ hb => Below.heap_setCell _ _ _ _ (by rw [ha]; exact hb)⟩
theorem Keep.below {B b : Nat} {w0 w w' : World} (h : Below B w0 w) (k : Keep b w w') (hb : B ≤ b) (hB : B ≤ w.heap.size) : Below B w0 w' :=
  h.trans ⟨k.os, k.tape, k.output, k.size, fun i hi => k.block i (by omega) (by omega)⟩

/-- A reader in block b: over s, at a place. -/
structure Rdr (w : World) (b : Nat) (s : ByteArray) (at_ : Nat) : Prop where
  lt : b < w.heap.size
  c0 : w.cell? ⟨b, 0, none⟩ = some (.string s)
  c1 : w.cell? ⟨b, 1, none⟩ = some (.int .i64 at_)
  fz : w.frozen? ⟨b, 1, none⟩ = false
  le : at_ ≤ s.size
theorem Rdr.below {w w' : World} {B b at_ : Nat} {s : ByteArray} (h : Rdr w b s at_) (hb : Below B w w') (hB : b < B) : Rdr w' b s at_ :=
  ⟨Nat.lt_of_lt_of_le h.lt hb.size, (hb.cell (p := ⟨b, 0, none⟩) hB).trans h.c0, (hb.cell (p := ⟨b, 1, none⟩) hB).trans h.c1, (hb.frozen (p := ⟨b, 1, none⟩) hB).trans h.fz, h.le⟩

set_option maxHeartbeats 400000 in
theorem new_any (s : ByteArray) (w : World) :
    Calls Try.prog 35 #[.string s] w fun e w' => e = .returned (.pointer (some ⟨w.heap.size, 0, none⟩)) ∧ Rdr w' w.heap.size s 0 ∧ Below w.heap.size w w' := by
  go_enter Try.func35, Try.ntmps35
  go_wp2
  go_ret
  exact ⟨rfl, ⟨by simp, by rw [World.cell?_alloc_at _ _ _ _ rfl]; rfl, by rw [World.cell?_alloc_at _ _ _ _ rfl]; rfl, World.frozen?_alloc_at _ _ _ _ rfl, Nat.zero_le _⟩, (Below.refl _ _).alloc (Nat.le_refl _) _⟩

set_option maxHeartbeats 400000 in
theorem left_any (b : Nat) (s : ByteArray) (at_ : Nat) (w : World) (h : Rdr w b s at_) (hz : s.size ≤ 9223372036854775807) :
    Calls Try.prog 45 #[.pointer (some ⟨b, 0, none⟩)] w fun e w' => ∃ n, e = .returned (.int .i64 ((s.size - at_ : Nat) : Int)) ∧ w' = w.drewN n := by
  have hc := h.c1
  have hc0 := h.c0
  have hle := h.le
  go_enter Try.func45, Try.ntmps45
  go_wp2
  go_quiet (fail)
  go_wp2
  go_ret
  exact ⟨_, ret_int (by omega), rfl⟩
set_option maxHeartbeats 400000 in
theorem text_yes (b : Nat) (s : ByteArray) (at_ : Nat) (n : Int) (w : World) (h : Rdr w b s at_) (hz : s.size ≤ 1000000000) (hn : n ≤ s.size - at_) :
    Calls Try.prog 44 #[.pointer (some ⟨b, 0, none⟩), .int .i64 n] w fun e w' => e = .returned (.string (s.extract at_ (at_ + n.toNat))) ∧ Rdr w' b s (at_ + n.toNat) ∧ Keep b w w' := by
  have hc := h.c1
  have hc0 := h.c0
  have hfz := h.fz
  have hle := h.le
  obtain ⟨m, hm, hm2⟩ : ∃ m : Nat, m = n.toNat ∧ ((n < 0 ∧ m = 0) ∨ (0 ≤ n ∧ n = m)) := ⟨n.toNat, rfl, by omega⟩
  rw [← hm]
  clear hm
  have hmle : (m : Int) ≤ s.size - at_ := by omega
  have hb := h.lt
  have hne : b = w.heap.size → False := by omega
  rcases hm2 with ⟨hneg, rfl⟩ | ⟨hpos, rfl⟩
  all_goals
    go_enter Try.func44, Try.ntmps44
    go_wp2_with fail
    refine (left_any b s at_ _ h (by omega)).mono ?_
    rintro e w1 ⟨nq, rfl, rfl⟩
    have h1 : Rdr (w.drewN nq) b s at_ := ⟨h.lt, hc0, hc, hfz, hle⟩
    have k1 : Keep b w (w.drewN nq) := (Keep.refl b w).drewN nq
    clear h hc hc0 hfz
    generalize w.drewN nq = w1 at *
    have hc := h1.c1
    have hc0 := h1.c0
    have hfz := h1.fz
    go_wp2
    go_quiet (fail)
    go_wp2
    go_ret
    refine ⟨ret_str (by first | rfl | simp), ?_, (k1.drewN _).setCell _ rfl _⟩
    refine ⟨by simpa [World.setCell] using h1.lt, ?_, ?_, ?_, ?_⟩
    · rw [World.cell?_setCell_other _ _ _ _ (by simp)]; exact hc0
    · exact (World.cell?_setCell_same (w1.drewN _) _ _ hc).trans (by simp)
    · rw [World.frozen?_setCell]; exact hfz
    · omega

/-- Too few bytes: it gives up with ErrShort, and the reader stands where it stood. -/
def Short (b : Nat) (s : ByteArray) (at_ : Nat) (w : World) (e : Ending) (w' : World) : Prop :=
  e = .panicked [{ v := .iface 36 (.int .i64 2), recovered := false }] ∧ ∃ n, w' = w.drewN n
set_option maxHeartbeats 400000 in
theorem text_no (b : Nat) (s : ByteArray) (at_ : Nat) (n : Int) (w : World) (h : Rdr w b s at_) (hz : s.size ≤ 1000000000) (hn : (s.size : Int) - at_ < n) :
    Calls Try.prog 44 #[.pointer (some ⟨b, 0, none⟩), .int .i64 n] w (Short b s at_ w) := by
  have hle := h.le
  have hpos : 0 < n := by omega
  go_enter Try.func44, Try.ntmps44
  go_wp2_with fail
  refine (left_any b s at_ _ h (by omega)).mono ?_
  rintro e w1 ⟨nq, rfl, rfl⟩
  have hlt : ((s.size - at_ : Nat) : Int) < n := by omega
  go_wp2
  exact ⟨rfl, rfl, nq, rfl⟩

set_option maxHeartbeats 400000 in
theorem num_yes (b : Nat) (s : ByteArray) (at_ : Nat) (n : Int) (w : World) (h : Rdr w b s at_) (hz : s.size ≤ 1000000000) (hn : at_ + szB n ≤ s.size) :
    Calls Try.prog 36 #[.pointer (some ⟨b, 0, none⟩), .int .i64 n] w fun e w' => e = .returned (.int .u64 (valI (bI (s.extract at_ (at_ + szB n))))) ∧ Rdr w' b s (at_ + szB n) ∧ Keep b w w' := by
  have hsz := szB_le n
  go_enter Try.func36, Try.ntmps36
  go_wp2_with fail
  refine (nsize_any n _).mono ?_
  rintro e w1 ⟨rfl, rfl⟩
  go_wp2_with fail
  refine (text_yes b s at_ (szB n : Nat) _ h hz (by omega)).mono ?_
  rintro e w1 ⟨rfl, h1, k1⟩
  rw [Int.toNat_natCast] at h1
  go_wp2_with fail
  refine (value_any _ _ (by rw [ByteArray.size_extract]; omega)).mono ?_
  rintro e w2 ⟨rfl, hb⟩
  go_wp2
  go_ret
  exact ⟨ret_int (by simp), h1.below hb h1.lt, k1.trans (Keep.ofBelow hb)⟩
set_option maxHeartbeats 400000 in
theorem num_no (b : Nat) (s : ByteArray) (at_ : Nat) (n : Int) (w : World) (h : Rdr w b s at_) (hz : s.size ≤ 1000000000) (hn : s.size - at_ < szB n) :
    Calls Try.prog 36 #[.pointer (some ⟨b, 0, none⟩), .int .i64 n] w (Short b s at_ w) := by
  have hle := h.le
  go_enter Try.func36, Try.ntmps36
  go_wp2_with fail
  refine (nsize_any n _).mono ?_
  rintro e w1 ⟨rfl, rfl⟩
  go_wp2_with fail
  refine (text_no b s at_ (szB n : Nat) _ h hz (by omega)).mono ?_
  rintro e w1 ⟨rfl, nq, rfl⟩
  exact ⟨rfl, rfl, nq, rfl⟩

end Go.Proofs.Ytdfnpaaejjediaa
