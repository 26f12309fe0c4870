/- the net: what holds between the calls; Turn of a torn one; the walk of awake -/
import Derived.Test.YtmlkmonapnebiaaDoorRNetG
namespace Go.Proofs.YtmlkmonapnebiaaDoorR
open Go.RowKit Go.Sort

section
variable {B : Nat} {w w1 w' : World} {O : Nat → Prop} {b : Nat} {s t : NS} {v : Value}
set_option maxHeartbeats 1600000 in
set_option maxRecDepth 100000 in
theorem turn_torn (k : Nat) (at_ mask : Int) (h : NetAt B w O b s v) (hk : k < s.l.length) (ht : s.l[k].torn = true) :
    Calls Tryd.prog 22 #[.pointer (some ⟨b, 0, none⟩), .int .i64 k, .int .i64 at_, .int .u8 mask] w fun e w' => e = .returned (.bool false) ∧ Below w.heap.size w w' := by
  have HAt := at_any k h
  have hth : s.there k = true := by unfold NS.there; exact decide_eq_true (by omega)
  have HA := Lib.hid (show s.at k = (s.l[k], true) from by rw [NS.at, if_pos hth, Int.toNat_natCast, List.getD_eq_getElem?_getD, List.getElem?_eq_getElem hk]; rfl)
  rw [HA.out] at HAt
  unfold dgV at HAt
  simp only at HAt
  rw [ht] at HAt
  replace HAt := Lib.hid HAt
  generalize s.l[k] = d at *
  clear hth HA ht
  go_enter Tryd.func22, Tryd.ntmps22
  go_wp2_with fail
  refine HAt.out.mono ?_
  rintro e w2 ⟨rfl, hb2⟩
  have hZ2 := BlkAt.new w2 35 #[.int .i64 0, .int .i64 0, .string ⟨#[]⟩, .bool false]
  go_wp2_with (first
    | (refine wpList_blk_alloc rfl rfl Tryd.dgZ w2.heap.size rfl ?_)
    | (refine wpList_blk_store (cs := #[.int .i64 d.src, .int .i64 d.dst, .string d.data, .bool true]) rfl (.tmp 9) (.tmp 16) rfl rfl rfl hZ2 Tryd.dgI rfl (by simp [Value.oneCell']) ?_; intro w4 hB4 hK4 hsz4; clear hsz4; obtain ⟨x0, x1, x2, x3⟩ : w4.cell? ⟨w2.heap.size, 0, none⟩ = some (.int .i64 d.src) ∧ w4.cell? ⟨w2.heap.size, 1, none⟩ = some (.int .i64 d.dst) ∧ w4.cell? ⟨w2.heap.size, 2, none⟩ = some (.string d.data) ∧ w4.cell? ⟨w2.heap.size, 3, none⟩ = some (.bool true) := ⟨hB4.cell rfl, hB4.cell rfl, hB4.cell rfl, hB4.cell rfl⟩))
  go_ret
  exact ⟨rfl, hb2.trans ((alloc_store hK4).mono hb2.size)⟩
end
/-- What holds between the calls. -/
structure NEn (w0 : World) (b : Nat) (s : NS) (O : Nat → Prop) (W : World) : Prop where
  at_ : ∃ v, NetAt w0.heap.size W O b s v
  bel : Below w0.heap.size w0 W
  ok : s.Ok
def NNx (w0 : World) (b : Nat) (t : NS) (O : Nat → Prop) (W W' : World) : Prop := ∃ O', NEn w0 b t O' W' ∧ KpO O W W' ∧ ∀ g, O' g → O g ∨ W.heap.size ≤ g
section
variable {w0 : World} {b : Nat} {s t : NS} {O O' : Nat → Prop} {W W' : World}
theorem NEn.below (h : NEn w0 b s O W) (hb : Below W.heap.size W W') : NEn w0 b s O W' := by
  obtain ⟨v, h1⟩ := h.at_
  exact ⟨⟨v, h1.below hb⟩, h.bel.trans (hb.mono h.bel.size), h.ok⟩
theorem NEn.lo (h : NEn w0 b s O W) : ∀ g, O g → w0.heap.size ≤ g := by
  obtain ⟨v, h1⟩ := h.at_
  exact h1.lo
theorem NEn.hi (h : NEn w0 b s O W) : ∀ g, O g → g < W.heap.size := by
  obtain ⟨v, h1⟩ := h.at_
  exact h1.hi
theorem NEn.tab (h : NEn w0 b s O W) (hT : Tab w0) : Tab W := hT.below h.bel hT.1
theorem NEn.to (h : NEn w0 b s O W) (ht : NetTo w0.heap.size W O b t W') (hok : t.Ok) : NNx w0 b t O W W' := by
  obtain ⟨O', v, h1, h2, h3⟩ := ht
  exact ⟨O', ⟨⟨v, h1⟩, KpO.below h.bel h2 h.lo h.bel.size, hok⟩, h2, h3⟩
theorem NEn.new (n : Int) (hT : Tab w0) (hb : Below w0.heap.size w0 W) :
    Calls Tryd.prog 8 #[.int .i64 n] W fun e w' => ∃ b, e = .returned (.pointer (some ⟨b, 0, none⟩)) ∧ NEn w0 b (NS.nw n) (fun g => g = b) w' ∧ W.heap.size ≤ b ∧ Below W.heap.size W w' := by
  refine (nnew_any n W (hT.below hb hT.1)).mono ?_
  rintro e w' ⟨b, rfl, h1, h2, h3⟩
  refine ⟨b, rfl, ⟨⟨.slice none 0 0, ?_⟩, hb.trans (h3.mono hb.size), NS.nw_ok n⟩, h1, h3⟩
  exact ⟨h2.blk, own_mono h2.row hb.size, h2.own, h2.nb, h2.ob, fun g hg => Nat.le_trans hb.size (h2.lo g hg), h2.hi⟩
theorem NS.send_ok (h : s.Ok) (d : Dg) : (s.send d).1.Ok := by
  unfold NS.send
  split
  · split
    · split
      · exact h
      · rename_i hl
        exact ⟨h.n, h.links, by show (s.l ++ [d]).length ≤ 4096; rw [List.length_append]; simp; omega⟩
    · exact h
  · exact h
theorem NEn.send (h : NEn w0 b s O W) (d : Dg) :
    Calls Tryd.prog 18 #[.pointer (some ⟨b, 0, none⟩), .agg #[.int .i64 d.src, .int .i64 d.dst, .string d.data, .bool d.torn]] W fun e w' => e = .returned (.int .i64 (s.send d).2) ∧ NNx w0 b (s.send d).1 O W w' := by
  obtain ⟨v, h1⟩ := h.at_
  refine (send_any d h.ok h1).mono ?_
  rintro e w' ⟨rfl, ht⟩
  exact ⟨rfl, h.to ht (NS.send_ok h.ok d)⟩
theorem NS.turned_ok (h : s.Ok) (k : Nat) (S : ByteArray) : (s.turned k S).Ok := ⟨h.n, h.links, by show (s.l.set k _).length ≤ 4096; rw [List.length_set]; exact h.len⟩
theorem NEn.turn (h : NEn w0 b s O W) (k : Nat) (at_ mask : Int) (hk : k < s.l.length) (ht : s.l[k].torn = false) (hd : 0 < s.l[k].data.size) (hz : s.l[k].data.size ≤ maxLen) (hm : mask ≠ 0) :
    Calls Tryd.prog 22 #[.pointer (some ⟨b, 0, none⟩), .int .i64 k, .int .i64 at_, .int .u8 mask] W fun e w' => e = .returned (.bool true) ∧ NNx w0 b (s.turned k (turnS s.l[k] at_ mask)) O W w' := by
  obtain ⟨v, h1⟩ := h.at_
  refine (turn_yes k at_ mask h.ok h1 hk ht hd hz hm).mono ?_
  rintro e w' ⟨rfl, hn⟩
  exact ⟨rfl, h.to hn (NS.turned_ok h.ok k _)⟩
theorem NEn.torn (h : NEn w0 b s O W) (k : Nat) (at_ mask : Int) (hk : k < s.l.length) (ht : s.l[k].torn = true) :
    Calls Tryd.prog 22 #[.pointer (some ⟨b, 0, none⟩), .int .i64 k, .int .i64 at_, .int .u8 mask] W fun e w' => e = .returned (.bool false) ∧ NEn w0 b s O w' := by
  obtain ⟨v, h1⟩ := h.at_
  refine (turn_torn k at_ mask h1 hk ht).mono ?_
  rintro e w' ⟨rfl, hb⟩
  exact ⟨rfl, h.below hb⟩
theorem NEn.cut (h : NEn w0 b s O W) (x : Nat) (hx : x < 18446744073709551616) (hT : Tab w0) :
    Calls Tryd.prog 10 #[.pointer (some ⟨b, 0, none⟩), .int .u64 x] W fun e w' => e = .returned (.tuple #[]) ∧ NNx w0 b (s.cut x) O W w' := by
  obtain ⟨v, h1⟩ := h.at_
  refine (cut_any x hx h.ok h1 (h.tab hT)).mono ?_
  rintro e w' ⟨rfl, h2, hk⟩
  exact ⟨rfl, h.to (NetTo.ofKp h2 hk) (NS.cut_ok h.ok x)⟩
theorem NEn.heal (h : NEn w0 b s O W) (hT : Tab w0) :
    Calls Tryd.prog 13 #[.pointer (some ⟨b, 0, none⟩)] W fun e w' => e = .returned (.tuple #[]) ∧ NNx w0 b s.heal O W w' := by
  obtain ⟨v, h1⟩ := h.at_
  refine (heal_any h.ok h1 (h.tab hT)).mono ?_
  rintro e w' ⟨rfl, h2, hk⟩
  exact ⟨rfl, h.to (NetTo.ofKp h2 hk) (NS.heal_ok h.ok)⟩
theorem NS.take_ok (h : s.Ok) (i : Int) : (s.take i).1.Ok := by
  unfold NS.take
  split
  · exact NS.less_ok h _
  · exact h
theorem NEn.take (h : NEn w0 b s O W) (i : Int) :
    Calls Tryd.prog 16 #[.pointer (some ⟨b, 0, none⟩), .int .i64 i] W fun e w' => e = .returned (dgV (s.take i).2) ∧ NNx w0 b (s.take i).1 O W w' := by
  obtain ⟨v, h1⟩ := h.at_
  refine (take_any i h.ok h1).mono ?_
  rintro e w' ⟨rfl, ht⟩
  exact ⟨rfl, h.to ht (NS.take_ok h.ok i)⟩
theorem NEn.len {n : Nat} (hn : Hid (s.l.length = n)) (h : NEn w0 b s O W) :
    Calls Tryd.prog 19 #[.pointer (some ⟨b, 0, none⟩)] W fun e w' => e = .returned (.int .i64 n) ∧ W = w' := by
  obtain ⟨v, h1⟩ := h.at_
  rw [← hn.out]
  exact nlen_any h1
theorem NEn.linked {p q : Int} {r : Bool} (hr : Hid (s.linked p q = r)) (h : NEn w0 b s O W) :
    Calls Tryd.prog 12 #[.pointer (some ⟨b, 0, none⟩), .int .i64 p, .int .i64 q] W fun e w' => e = .returned (.bool r) ∧ W = w' := by
  obtain ⟨v, h1⟩ := h.at_
  rw [← hr.out]
  exact linked_any p q h.ok h1
end
def awd : Dg := ⟨1, 2, ⟨#[97, 98]⟩, false⟩
def awe : Dg := ⟨0, 1, ⟨#[]⟩, false⟩
def aw0 : NS := NS.nw 3
def aw1 : NS := (aw0.send awd).1
def aw2 : NS := aw1.turned 0 (turnS awd 1 1)
def aw3 : NS := aw2.cut (withN 0 [0])
def aw4 : NS := (aw3.take 0).1
theorem aw_l1 : aw1.l = [awd] := by
  have h : aw0.inn 1 = true ∧ aw0.inn 2 = true ∧ aw0.linked 1 2 = true := by decide +kernel
  have h2 : aw0.l = [] := rfl
  show (aw0.send awd).1.l = _
  unfold NS.send
  rw [if_pos ⟨h.1, h.2.1⟩]
  show (if aw0.linked 1 2 = true then _ else _ : NS × Nat).1.l = _
  rw [if_pos h.2.2, if_neg (by rw [h2]; decide)]
  show aw0.l ++ [awd] = _
  rw [h2]; rfl
theorem aw_c1 : (aw0.send awd).2 = 0 := by
  have h : aw0.inn 1 = true ∧ aw0.inn 2 = true ∧ aw0.linked 1 2 = true := by decide +kernel
  have h2 : aw0.l = [] := rfl
  unfold NS.send
  rw [if_pos ⟨h.1, h.2.1⟩]
  show (if aw0.linked 1 2 = true then _ else _ : NS × Nat).2 = _
  rw [if_pos h.2.2, if_neg (by rw [h2]; decide)]
def awf : Dg := ⟨1, 2, ⟨#[97, 99]⟩, true⟩
theorem aw_S : turnS awd 1 1 = ⟨#[97, 99]⟩ := by decide +kernel
theorem aw_l2 : aw2.l = [awf] := by
  show aw1.l.set 0 ((aw1.l.getD 0 .zero).turned (turnS awd 1 1)) = _
  rw [aw_l1, aw_S]; rfl
theorem aw_l3 : aw3.l = [awf] := aw_l2
end Go.Proofs.YtmlkmonapnebiaaDoorR
