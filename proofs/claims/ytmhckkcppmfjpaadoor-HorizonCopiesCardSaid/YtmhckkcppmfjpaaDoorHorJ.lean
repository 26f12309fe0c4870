/- the horizon: the walk of awake -/
import Derived.Test.YtmhckkcppmfjpaaDoorHorI
namespace Go.Proofs.YtmhckkcppmfjpaaDoor
open Go.RowKit Go.Sort

section
variable {w0 : World} {b k : Nat} {s t : HS} {O O' : Nat → Prop} {W W' : World}
theorem HEn.prom (h : HEn w0 b s k O W) (hk : k < 1000000) (p : Int) (st sent : Nat) (h1 : sent < 4294967296) (h2 : st < 18446744073709551616) :
    Calls Tryd.prog 15 #[.pointer (some ⟨b, 0, none⟩), .int .i64 p, .int .u64 st, .int .u32 sent] W fun e w' => e = .returned (.tuple #[]) ∧ HNx w0 b (s.prom p st sent) (k + 1) O W w' := by
  obtain ⟨vs, g⟩ := h.at_
  refine (prom_any p st sent h1 h2 h.ok (fun i => Nat.lt_of_le_of_lt (h.len i) hk) g).mono ?_
  rintro e w' ⟨rfl, ht⟩
  exact ⟨rfl, h.to ht (HS.prom_ok h.ok p h1 h2) (HS.act_len h.len ⟨1, p, sent, st⟩)⟩
theorem HEn.came (h : HEn w0 b s k O W) (hk : k < 1000000) (p : Int) (seq st : Nat) (h1 : seq < 4294967296) (h2 : st < 18446744073709551616) :
    Calls Tryd.prog 16 #[.pointer (some ⟨b, 0, none⟩), .int .i64 p, .int .u32 seq, .int .u64 st] W fun e w' => e = .returned (.tuple #[]) ∧ HNx w0 b (s.came p seq st) (k + 1) O W w' := by
  obtain ⟨vs, g⟩ := h.at_
  refine (came_any p seq st h1 h2 h.ok (fun i => Nat.le_of_lt (Nat.lt_of_le_of_lt (h.len i) hk)) g).mono ?_
  rintro e w' ⟨rfl, ht⟩
  exact ⟨rfl, h.to ht (HS.came_ok h.ok p h1 h2) (HS.act_len h.len ⟨0, p, seq, st⟩)⟩
theorem HEn.reached (h : HEn w0 b s k O W) (p : Int) (st : Nat) (h2 : st < 18446744073709551616) :
    Calls Tryd.prog 19 #[.pointer (some ⟨b, 0, none⟩), .int .i64 p, .int .u64 st] W fun e w' => e = .returned (.tuple #[]) ∧ HNx w0 b (s.reach p st) (k + 1) O W w' := by
  obtain ⟨vs, g⟩ := h.at_
  refine (reached_any p st h.ok g).mono ?_
  rintro e w' ⟨rfl, ht⟩
  exact ⟨rfl, h.to ht (HS.reach_ok h.ok p h2) (HS.act_len h.len ⟨2, p, 0, st⟩)⟩
theorem HEn.stamp (h : HEn w0 b s k O W) :
    Calls Tryd.prog 20 #[.pointer (some ⟨b, 0, none⟩)] W fun e w' => e = .returned (.int .u64 s.stamp.clock) ∧ HNx w0 b s.stamp (k + 1) O W w' := by
  obtain ⟨vs, g⟩ := h.at_
  refine (stamp_any h.ok g).mono ?_
  rintro e w' ⟨rfl, h1, h2⟩
  exact ⟨rfl, h.to (HorTo.ofKp h1 h2) (HS.stamp_ok h.ok) (HS.act_len h.len ⟨3, 0, 0, 0⟩)⟩
end
def aw0 : HS := HS.nw 0 (withN 0 [0, 1])
def aw1 : HS := aw0.prom 1 6 2
def aw2 : HS := aw1.came 1 1 4
def aw3 : HS := aw2.reach 1 4
def aw4 : HS := aw3.came 1 2 5
theorem aw_facts : aw2.all = 4 ∧ aw2.safe = 0 ∧ aw3.safe = 4 ∧ aw4.all = 6 ∧ aw4.clock = 6 ∧ aw4.stamp.clock = 7 := by decide +kernel
theorem int_is {k : IntKind} {n : Nat} {z : Int} (h : (n : Int) = z) : Value.int k n = .int k z := by rw [h]
set_option maxHeartbeats 1600000 in
set_option maxRecDepth 100000 in
theorem awake_any (w : World) (hT : Tab w) : Calls Tryd.prog 7 #[] w fun e w' => e = .returned (.bool true) ∧ Below w.heap.size w w' := by
  have hb0 : Below w.heap.size w (w.alloc (.cells #[.int .i64 0, .int .i64 1] 3)) := (Below.refl _ _).alloc (Nat.le_refl _) _
  have hO := Lib.hid (of_any 2 2 (some ⟨w.heap.size, 0, none⟩) [0, 1] (w.alloc (.cells #[.int .i64 0, .int .i64 1] 3)) (by decide) (Rd.lit (cs := #[.int .i64 0, .int .i64 1]) rfl rfl (by decide)))
  have hx : withN 0 [0, 1] < 18446744073709551616 := by decide +kernel
  have f1 : (aw2.all : Int) = 4 := by rw [aw_facts.1]; rfl
  have f2 : (aw2.safe : Int) = 0 := by rw [aw_facts.2.1]; rfl
  have f3 : (aw3.safe : Int) = 4 := by rw [aw_facts.2.2.1]; rfl
  have f4 : (aw4.all : Int) = 6 := by rw [aw_facts.2.2.2.1]; rfl
  have f5 : (aw4.clock : Int) = 6 := by rw [aw_facts.2.2.2.2.1]; rfl
  have f6 : (aw4.stamp.clock : Int) = 7 := by rw [aw_facts.2.2.2.2.2]; rfl
  replace f1 := Lib.hid f1
  replace f2 := Lib.hid f2
  replace f3 := Lib.hid f3
  replace f4 := Lib.hid f4
  replace f5 := Lib.hid f5
  replace f6 := Lib.hid f6
  go_enter Tryd.func7, Tryd.ntmps7
  go_wp2_with fail
  generalize w.alloc _ = wa at *
  refine hO.out.mono ?_
  rintro e w' ⟨rfl, rfl⟩
  have HN := Lib.hid (fun W (hb : Below w.heap.size w W) => HEn.new (w0 := w) (W := W) 0 _ hx hb)
  have hz0 : Hid (HS.nw 0 (withN 0 [0, 1]) = aw0) := rfl
  generalize withN 0 [0, 1] = x at *
  go_wp2_with fail
  refine (HN.out _ hb0).mono ?_
  rintro e w1 ⟨b, rfl, E, _, _⟩
  rw [hz0.out] at E
  clear hO HN hb0 hz0
  go_wp2_with fail
  refine (E.prom (by decide) 1 6 2 (by decide) (by decide)).mono ?_
  rintro e w2 ⟨rfl, O2, E2, _, _⟩
  go_wp2_with fail
  refine (E2.came (by decide) 1 1 4 (by decide) (by decide)).mono ?_
  rintro e w3 ⟨rfl, O3, E3, _, _⟩
  replace E3 : HEn w b aw2 _ O3 w3 := E3
  clear E E2
  go_wp2_with fail
  refine (E3.all hT).mono ?_
  rintro e w4 ⟨rfl, hb⟩
  rw [int_is f1.out]
  replace E3 := E3.below hb
  clear hb
  go_wp2_with fail
  refine (E3.safe hT).mono ?_
  rintro e w5 ⟨rfl, hb⟩
  rw [int_is f2.out]
  replace E3 := E3.below hb
  clear hb
  go_wp2_with fail
  refine (E3.reached 1 4 (by decide)).mono ?_
  rintro e w6 ⟨rfl, O6, E6, _, _⟩
  replace E6 : HEn w b aw3 _ O6 w6 := E6
  clear E3
  go_wp2_with fail
  refine (E6.safe hT).mono ?_
  rintro e w7 ⟨rfl, hb⟩
  rw [int_is f3.out]
  replace E6 := E6.below hb
  clear hb
  go_wp2_with fail
  refine (E6.came (by decide) 1 2 5 (by decide) (by decide)).mono ?_
  rintro e w8 ⟨rfl, O8, E8, _, _⟩
  replace E8 : HEn w b aw4 _ O8 w8 := E8
  clear E6
  go_wp2_with fail
  refine (E8.all hT).mono ?_
  rintro e w9 ⟨rfl, hb⟩
  rw [int_is f4.out]
  replace E8 := E8.below hb
  clear hb
  go_wp2_with fail
  refine E8.clock.mono ?_
  rintro e w' ⟨rfl, rfl⟩
  rw [int_is f5.out]
  go_wp2_with fail
  refine E8.stamp.mono ?_
  rintro e w10 ⟨rfl, O10, E10, _, _⟩
  rw [int_is f6.out]
  go_wp2
  go_ret
  exact ⟨rfl, E10.bel⟩
end Go.Proofs.YtmhckkcppmfjpaaDoor
