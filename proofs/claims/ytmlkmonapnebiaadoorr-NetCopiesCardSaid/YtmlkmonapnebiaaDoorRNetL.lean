/- the net: acts of a script; walks of act, Few -/
import Derived.Test.YtmlkmonapnebiaaDoorRNetK
import Derived.Test.YtmlkmonapnebiaaDoorRNetI
namespace Go.Proofs.YtmlkmonapnebiaaDoorR
open Go.RowKit Go.Sort

/-- An act. -/
structure NAc where
  kind : Int
  d : Dg
  i : Int
  at_ : Int
  mask : Int
  s : Nat
def naC (x : NAc) : List Value := [.int .i64 x.kind, .int .i64 x.d.src, .int .i64 x.d.dst, .string x.d.data, .bool x.d.torn, .int .i64 x.i, .int .i64 x.at_, .int .u8 x.mask, .int .u64 x.s]
theorem naC_len (x : NAc) : (naC x).length = 9 := rfl
structure NAc.Ok (x : NAc) : Prop where
  s : x.s < 18446744073709551616
  data : x.d.data.size ≤ maxLen
/-- No datagram's text is longer than a text may be. -/
def NS.Dz (s : NS) : Prop := ∀ d ∈ s.l, d.data.size ≤ maxLen
def NS.act (s : NS) (a : NAc) : NS :=
  if a.kind = 0 then (s.send a.d).1 else if a.kind = 1 then (s.take a.i).1 else if a.kind = 2 then (s.drop a.i).1 else if a.kind = 3 then (s.double a.i).1 else if a.kind = 4 then (s.turnA a.i a.at_ a.mask).1 else if a.kind = 5 then s.cut a.s else if a.kind = 6 then s.heal else s
theorem turnS_size (d : Dg) (at_ mask : Int) : (turnS d at_ mask).size = d.data.size := by
  unfold turnS
  rw [strOfNums_size, List.length_set, bI_len]
theorem dz_getD {s : NS} (h : s.Dz) (k : Nat) : (s.l.getD k .zero).data.size ≤ maxLen := by
  rw [List.getD_eq_getElem?_getD]
  cases e : s.l[k]? with
  | none => exact Nat.zero_le _
  | some x => exact h x (List.mem_of_getElem? e)
theorem NS.act_dz {s : NS} (h : s.Dz) {a : NAc} (ha : a.Ok) : (s.act a).Dz := by
  unfold NS.act
  split
  · unfold NS.send
    split
    · split
      · split
        · exact h
        · intro d hd
          rcases List.mem_append.1 hd with hd | hd
          · exact h d hd
          · rw [List.mem_singleton.1 hd]; exact ha.data
      · exact h
    · exact h
  split
  · unfold NS.take
    split
    · exact fun d hd => h d (List.mem_of_mem_eraseIdx hd)
    · exact h
  split
  · unfold NS.drop
    split
    · exact fun d hd => h d (List.mem_of_mem_eraseIdx hd)
    · exact h
  split
  · unfold NS.double
    split
    · intro d hd
      rcases List.mem_append.1 hd with hd | hd
      · exact h d hd
      · rw [List.mem_singleton.1 hd]; exact dz_getD h _
    · exact h
  split
  · unfold NS.turnA
    split
    · intro d hd
      rcases List.mem_or_eq_of_mem_set hd with hd | hd
      · exact h d hd
      · rw [hd]
        show (turnS _ _ _).size ≤ _
        rw [turnS_size]
        exact dz_getD h _
    · exact h
  split
  · exact h
  split
  · exact h
  · exact h
section
variable {w0 : World} {b : Nat} {s t : NS} {O O' : Nat → Prop} {W W' : World}
theorem NS.drop_ok (h : s.Ok) (i : Int) : (s.drop i).1.Ok := by
  unfold NS.drop
  split
  · exact NS.less_ok h _
  · exact h
theorem NS.double_ok (h : s.Ok) (i : Int) : (s.double i).1.Ok := by
  unfold NS.double
  split
  · rename_i hc
    exact ⟨h.n, h.links, by show (s.l ++ [_]).length ≤ 4096; rw [List.length_append]; have := hc.2; simp; omega⟩
  · exact h
theorem NS.turnA_ok (h : s.Ok) (i a m : Int) : (s.turnA i a m).1.Ok := by
  unfold NS.turnA
  split
  · exact NS.turned_ok h _ _
  · exact h
theorem NEn.drop (h : NEn w0 b s O W) (i : Int) :
    Calls Tryd.prog 30 #[.pointer (some ⟨b, 0, none⟩), .int .i64 i] W fun e w' => e = .returned (.bool (s.drop i).2) ∧ NNx w0 b (s.drop i).1 O W w' := by
  obtain ⟨v, h1⟩ := h.at_
  refine (drop_any i h.ok h1).mono ?_
  rintro e w' ⟨rfl, ht⟩
  exact ⟨rfl, h.to ht (NS.drop_ok h.ok i)⟩
theorem NEn.double (h : NEn w0 b s O W) (i : Int) :
    Calls Tryd.prog 31 #[.pointer (some ⟨b, 0, none⟩), .int .i64 i] W fun e w' => e = .returned (.bool (s.double i).2) ∧ NNx w0 b (s.double i).1 O W w' := by
  obtain ⟨v, h1⟩ := h.at_
  refine (double_any i h.ok h1).mono ?_
  rintro e w' ⟨rfl, ht⟩
  exact ⟨rfl, h.to ht (NS.double_ok h.ok i)⟩
theorem NNx.same (h : NEn w0 b s O W) (hb : Below W.heap.size W W') : NNx w0 b s O W W' := ⟨O, h.below hb, KpO.ofBelow hb, fun g hg => .inl hg⟩
theorem NNx.pre {W0 : World} (h : NNx w0 b t O W' W0) (hb : Below W.heap.size W W') : NNx w0 b t O W W0 := by
  obtain ⟨O', h1, h2, h3⟩ := h
  exact ⟨O', h1, (KpO.ofBelow hb).trans h2 (fun g hg => .inl hg), fun g hg => (h3 g hg).imp id (fun h => Nat.le_trans hb.size h)⟩
theorem NEn.turnA (h : NEn w0 b s O W) (hz : s.Dz) (i at_ mask : Int) :
    Calls Tryd.prog 22 #[.pointer (some ⟨b, 0, none⟩), .int .i64 i, .int .i64 at_, .int .u8 mask] W fun e w' => e = .returned (.bool (s.turnA i at_ mask).2) ∧ NNx w0 b (s.turnA i at_ mask).1 O W w' := by
  by_cases hc : s.there i = true ∧ (s.l.getD i.toNat .zero).torn = false ∧ 0 < (s.l.getD i.toNat .zero).data.size ∧ mask ≠ 0
  · have hcc := hc
    obtain ⟨h1, h2, h3, h4⟩ := hc
    obtain ⟨k, rfl, hk⟩ := there_t h1
    have hgd : s.l.getD k .zero = s.l[k] := by rw [List.getD_eq_getElem?_getD, List.getElem?_eq_getElem hk]; rfl
    have e : s.turnA k at_ mask = (s.turned k (turnS s.l[k] at_ mask), true) := by rw [NS.turnA, if_pos hcc, Int.toNat_natCast, hgd]
    rw [Int.toNat_natCast, hgd] at h2 h3
    rw [e]
    exact h.turn k at_ mask hk h2 h3 (hz _ (List.getElem_mem hk)) h4
  · obtain ⟨v, g⟩ := h.at_
    have e : s.turnA i at_ mask = (s, false) := if_neg hc
    rw [e]
    refine (turn_no i at_ mask g hc).mono ?_
    rintro e w' ⟨rfl, hb⟩
    exact ⟨rfl, NNx.same h hb⟩
theorem c9 {W : World} {b : Nat} {t : TypeId} {v0 v1 v2 v3 v4 v5 v6 v7 v8 : Value} (h : BlkAt W b t #[v0, v1, v2, v3, v4, v5, v6, v7, v8]) : W.cell? ⟨b, 0, none⟩ = some v0 ∧ W.cell? ⟨b, 1, none⟩ = some v1 ∧ W.cell? ⟨b, 2, none⟩ = some v2 ∧ W.cell? ⟨b, 3, none⟩ = some v3 ∧ W.cell? ⟨b, 4, none⟩ = some v4 ∧ W.cell? ⟨b, 5, none⟩ = some v5 ∧ W.cell? ⟨b, 6, none⟩ = some v6 ∧ W.cell? ⟨b, 7, none⟩ = some v7 ∧ W.cell? ⟨b, 8, none⟩ = some v8 :=
  ⟨h.cell rfl, h.cell rfl, h.cell rfl, h.cell rfl, h.cell rfl, h.cell rfl, h.cell rfl, h.cell rfl, h.cell rfl⟩
set_option maxHeartbeats 3200000 in
set_option maxRecDepth 100000 in
theorem NEn.act (h : NEn w0 b s O W) (hz : s.Dz) (hT : Tab w0) (a : NAc) (ha : a.Ok) :
    Calls Tryd.prog 15 #[.pointer (some ⟨b, 0, none⟩), .agg #[.int .i64 a.kind, .int .i64 a.d.src, .int .i64 a.d.dst, .string a.d.data, .bool a.d.torn, .int .i64 a.i, .int .i64 a.at_, .int .u8 a.mask, .int .u64 a.s]] W fun e w' => e = .returned (.tuple #[]) ∧ NNx w0 b (s.act a) O W w' := by
  obtain ⟨kind, d, i, at_, mask, x⟩ := a
  have hx := ha.s
  simp only at hx
  have hbx : Below W.heap.size W (W.alloc (.cells #[.int .i64 kind, .int .i64 d.src, .int .i64 d.dst, .string d.data, .bool d.torn, .int .i64 i, .int .i64 at_, .int .u8 mask, .int .u64 x] 37)) := (Below.refl _ _).alloc (Nat.le_refl _) _
  have h1 := h.below hbx
  have HA : s.act ⟨kind, d, i, at_, mask, x⟩ = (if kind = 0 then (s.send d).1 else if kind = 1 then (s.take i).1 else if kind = 2 then (s.drop i).1 else if kind = 3 then (s.double i).1 else if kind = 4 then (s.turnA i at_ mask).1 else if kind = 5 then s.cut x else if kind = 6 then s.heal else s) := rfl
  (obtain ⟨c0, c1, c2, c3, c4, c5, c6, c7, c8⟩ := c9 (BlkAt.new W 37 #[.int .i64 kind, .int .i64 d.src, .int .i64 d.dst, .string d.data, .bool d.torn, .int .i64 i, .int .i64 at_, .int .u8 mask, .int .u64 x]))
  clear h ha
  by_cases k0 : kind = 0
  · subst k0
    have H := Lib.hid (h1.send d)
    have HA2 := Lib.hid (HA.trans (if_pos rfl))
    clear h1 HA
    ((go_enter Tryd.func15, Tryd.ntmps15; go_wp2_with fail); generalize W.alloc _ = w1 at *; refine H.out.mono ?_; rintro e w2 ⟨rfl, ht⟩; go_wp2; go_end0; exact ⟨rfl, by rw [HA2.out]; exact ht.pre hbx⟩)
  rw [if_neg k0] at HA
  by_cases k1 : kind = 1
  · subst k1
    have H := Lib.hid (h1.take i)
    unfold dgV at H
    have HA2 := Lib.hid (HA.trans (if_pos rfl))
    clear h1 HA k0
    ((go_enter Tryd.func15, Tryd.ntmps15; go_wp2_with fail); generalize W.alloc _ = w1 at *; refine H.out.mono ?_; rintro e w2 ⟨rfl, ht⟩; go_wp2; go_end0; exact ⟨rfl, by rw [HA2.out]; exact ht.pre hbx⟩)
  rw [if_neg k1] at HA
  by_cases k2 : kind = 2
  · subst k2
    have H := Lib.hid (h1.drop i)
    have HA2 := Lib.hid (HA.trans (if_pos rfl))
    clear h1 HA k0 k1
    ((go_enter Tryd.func15, Tryd.ntmps15; go_wp2_with fail); generalize W.alloc _ = w1 at *; refine H.out.mono ?_; rintro e w2 ⟨rfl, ht⟩; go_wp2; go_end0; exact ⟨rfl, by rw [HA2.out]; exact ht.pre hbx⟩)
  rw [if_neg k2] at HA
  by_cases k3 : kind = 3
  · subst k3
    have H := Lib.hid (h1.double i)
    have HA2 := Lib.hid (HA.trans (if_pos rfl))
    clear h1 HA k0 k1 k2
    ((go_enter Tryd.func15, Tryd.ntmps15; go_wp2_with fail); generalize W.alloc _ = w1 at *; refine H.out.mono ?_; rintro e w2 ⟨rfl, ht⟩; go_wp2; go_end0; exact ⟨rfl, by rw [HA2.out]; exact ht.pre hbx⟩)
  rw [if_neg k3] at HA
  by_cases k4 : kind = 4
  · subst k4
    have H := Lib.hid (h1.turnA hz i at_ mask)
    have HA2 := Lib.hid (HA.trans (if_pos rfl))
    clear h1 HA k0 k1 k2 k3
    ((go_enter Tryd.func15, Tryd.ntmps15; go_wp2_with fail); generalize W.alloc _ = w1 at *; refine H.out.mono ?_; rintro e w2 ⟨rfl, ht⟩; go_wp2; go_end0; exact ⟨rfl, by rw [HA2.out]; exact ht.pre hbx⟩)
  rw [if_neg k4] at HA
  by_cases k5 : kind = 5
  · subst k5
    have H := Lib.hid (h1.cut x hx hT)
    have HA2 := Lib.hid (HA.trans (if_pos rfl))
    clear h1 HA k0 k1 k2 k3 k4
    ((go_enter Tryd.func15, Tryd.ntmps15; go_wp2_with fail); generalize W.alloc _ = w1 at *; refine H.out.mono ?_; rintro e w2 ⟨rfl, ht⟩; go_wp2; go_end0; exact ⟨rfl, by rw [HA2.out]; exact ht.pre hbx⟩)
  rw [if_neg k5] at HA
  by_cases k6 : kind = 6
  · subst k6
    have H := Lib.hid (h1.heal hT)
    have HA2 := Lib.hid (HA.trans (if_pos rfl))
    clear h1 HA k0 k1 k2 k3 k4 k5
    ((go_enter Tryd.func15, Tryd.ntmps15; go_wp2_with fail); generalize W.alloc _ = w1 at *; refine H.out.mono ?_; rintro e w2 ⟨rfl, ht⟩; go_wp2; go_end0; exact ⟨rfl, by rw [HA2.out]; exact ht.pre hbx⟩)
  rw [if_neg k6] at HA
  have e0 : (kind == 0) = false := by rw [beq_eq_false_iff_ne]; exact k0
  have e1 : (kind == 1) = false := by rw [beq_eq_false_iff_ne]; exact k1
  have e2 : (kind == 2) = false := by rw [beq_eq_false_iff_ne]; exact k2
  have e3 : (kind == 3) = false := by rw [beq_eq_false_iff_ne]; exact k3
  have e4 : (kind == 4) = false := by rw [beq_eq_false_iff_ne]; exact k4
  have e5 : (kind == 5) = false := by rw [beq_eq_false_iff_ne]; exact k5
  have e6 : (kind == 6) = false := by rw [beq_eq_false_iff_ne]; exact k6
  have HA2 := Lib.hid HA
  have HS := Lib.hid (NNx.same h1 (Below.refl _ _))
  clear h1 HA
  (go_enter Tryd.func15, Tryd.ntmps15; go_wp2_with fail)
  go_end0
  exact ⟨rfl, by rw [HA2.out]; exact HS.out.pre hbx⟩
end
end Go.Proofs.YtmlkmonapnebiaaDoorR
