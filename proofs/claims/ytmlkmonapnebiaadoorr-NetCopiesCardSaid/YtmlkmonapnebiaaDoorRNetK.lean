/- the net: walks of Double, of Turn that does nothing, of act -/
import Derived.Test.YtmlkmonapnebiaaDoorRNetH
namespace Go.Proofs.YtmlkmonapnebiaaDoorR
open Go.RowKit Go.Sort

def NS.double (s : NS) (i : Int) : NS × Bool := if s.there i = true ∧ s.l.length < 4096 then ({ s with l := s.l ++ [s.l.getD i.toNat .zero] }, true) else (s, false)
section
variable {B : Nat} {w w1 w' : World} {O : Nat → Prop} {b : Nat} {s t : NS} {v : Value}
set_option maxHeartbeats 3200000 in
set_option maxRecDepth 100000 in
theorem double_any (i : Int) (hs : s.Ok) (h : NetAt B w O b s v) :
    Calls Tryd.prog 31 #[.pointer (some ⟨b, 0, none⟩), .int .i64 i] w fun e w' => e = .returned (.bool (s.double i).2) ∧ NetTo B w O b (s.double i).1 w' := by
  have HT := there_any i h
  have HS := Lib.hid (NetTo.same h)
  cases ht : s.there i with
  | false =>
    rw [ht] at HT
    replace HT := Lib.hid HT
    have HE := Lib.hid (show s.double i = (s, false) from if_neg (by rw [ht]; simp))
    clear ht h
    go_enter Tryd.func31, Tryd.ntmps31
    (go_wp2_with fail; refine (HT.out).mono ?_; rintro e w' ⟨rfl, rfl⟩)
    go_wp2
    go_ret
    exact ⟨by rw [HE.out]; rfl, by rw [HE.out]; exact HS.out⟩
  | true =>
    obtain ⟨k, rfl, hk⟩ := there_t ht
    rw [ht] at HT
    replace HT := Lib.hid HT
    have cv := h.cv
    have hlen := hs.len
    by_cases hfull : 4096 ≤ s.l.length
    · have HE := Lib.hid (show s.double k = (s, false) from if_neg (fun hc => by have := hc.2; omega))
      have hfI : (4096 : Int) ≤ s.l.length := by omega
      obtain ⟨a, c, rfl, hr⟩ := h.sl
      clear ht h hr
      go_enter Tryd.func31, Tryd.ntmps31
      (go_wp2_with fail; refine (HT.out).mono ?_; rintro e w' ⟨rfl, rfl⟩)
      go_wp2
      go_ret
      exact ⟨by rw [HE.out]; rfl, by rw [HE.out]; exact HS.out⟩
    · have hgd : s.l.getD k .zero = s.l[k] := by rw [List.getD_eq_getElem?_getD, List.getElem?_eq_getElem hk]; rfl
      have HE := Lib.hid (show s.double k = ({ s with l := s.l ++ [s.l[k]] }, true) from by rw [NS.double, if_pos ⟨ht, by omega⟩, Int.toNat_natCast, hgd])
      have hfI : ¬ (4096 : Int) ≤ s.l.length := by omega
      have hlo : B ≤ w.heap.size := Nat.le_trans (h.lo b h.ob) (Nat.le_of_lt h.lt)
      obtain ⟨a, c, rfl, hr⟩ := h.sl
      obtain ⟨g, off, rfl, hgl⟩ := Rd.addr hr (by omega)
      have hkI : (k : Int) < s.l.length := by omega
      obtain ⟨d0, d1, d2, d3⟩ := hr.at k hk
      generalize s.l[k] = d at *
      have hbA : Below w.heap.size w (w.alloc (.cells #[.int .i64 d.src, .int .i64 d.dst, .string d.data, .bool d.torn] 35)).drew := ((Below.refl _ _).alloc (Nat.le_refl _) _).drew
      have h2 := h.below hbA
      have o6 := Lib.hid h2.row
      have hlv : Hid (Rd (w.alloc (.cells #[.int .i64 d.src, .int .i64 d.dst, .string d.data, .bool d.torn] 35)).drew 4 (some ⟨w.heap.size, 0, none⟩) 1 1 (dgF d)) := Lib.hid (Rd.below (Rd.blk1 (w := w) (cs := dgF d) rfl rfl) (Below.refl _ _).drew (Nat.le_refl _))
      have hsz1 : B ≤ (w.alloc (.cells #[.int .i64 d.src, .int .i64 d.dst, .string d.data, .bool d.torn] 35)).drew.heap.size := Nat.le_trans hlo hbA.size
      have hX := Lib.hid (fun (w4 : World) (u : Value) hg ho hu => h2.appended (w4 := w4) (u := u) d hg ho hu)
      have hF := Lib.hid (fun (w4 : World) hg => h2.grownCells (w4 := w4) hg)
      have HPre := Lib.hid (fun t w' (k : NetTo B (w.alloc (.cells #[.int .i64 d.src, .int .i64 d.dst, .string d.data, .bool d.torn] 35)).drew O b t w') => k.pre hbA)
      have cvA : (w.alloc (.cells #[.int .i64 d.src, .int .i64 d.dst, .string d.data, .bool d.torn] 35)).cell? ⟨b, 65, none⟩ = some (.slice (some ⟨g, off, none⟩) s.l.length c) := h2.cv
      have hneA := World.new_ne w _ cv
      have hneB : w.heap.size ≠ g := by omega
      clear ht h h2 hbA hr hgd
      go_enter Tryd.func31, Tryd.ntmps31
      (go_wp2_with fail; refine (HT.out).mono ?_; rintro e w' ⟨rfl, rfl⟩)
      go_wp2
      go_region_law (first
        | (refine step_append_apart (base := B) (v := .slice (some ⟨g, off, none⟩) s.l.length c) (n := s.l.length) (xs := s.l.flatMap dgF) (b := w.heap.size) (off := 0) (m := 1) (c := 1) (news := dgF d) Tryd.dgE rfl (.tmp 21) (.tmp 29) rfl (by rfl) o6.out (by rfl) hlv.out (by decide) (dgF_one d) (by unfold maxLen; omega) (by omega) hsz1 ?_; intro v' w4 hown' hg' hv'; obtain ⟨s4, f4⟩ := hF.out w4 hg'; have HY := Lib.hid (HPre.out _ _ (hX.out w4 v' hg' hown' hv')); obtain ⟨a4, c4, rfl, _⟩ := Rd.own hown'; clear hown' hg' hv'))
      all_goals
        go_wp2
        go_ret
        exact ⟨by rw [HE.out]; rfl, by rw [HE.out]; exact HY.out⟩
def NS.turnA (s : NS) (i at_ mask : Int) : NS × Bool :=
  if s.there i = true ∧ (s.l.getD i.toNat .zero).torn = false ∧ 0 < (s.l.getD i.toNat .zero).data.size ∧ mask ≠ 0 then (s.turned i.toNat (turnS (s.l.getD i.toNat .zero) at_ mask), true) else (s, false)
set_option maxHeartbeats 3200000 in
set_option maxRecDepth 100000 in
theorem turn_no (i at_ mask : Int) (h : NetAt B w O b s v) (hno : ¬ (s.there i = true ∧ (s.l.getD i.toNat .zero).torn = false ∧ 0 < (s.l.getD i.toNat .zero).data.size ∧ mask ≠ 0)) :
    Calls Tryd.prog 22 #[.pointer (some ⟨b, 0, none⟩), .int .i64 i, .int .i64 at_, .int .u8 mask] w fun e w' => e = .returned (.bool false) ∧ Below w.heap.size w w' := by
  have HAt := at_any i h
  unfold NS.at at HAt
  cases ht : s.there i with
  | false =>
    rw [ht, if_neg (by decide)] at HAt
    unfold dgV Dg.zero at HAt
    simp only at HAt
    replace HAt := Lib.hid HAt
    clear hno ht h
    go_enter Tryd.func22, Tryd.ntmps22
    go_wp2_with fail
    (refine HAt.out.mono ?_; rintro e w2 ⟨rfl, hb2⟩; have hZ2 := BlkAt.new w2 35 #[.int .i64 0, .int .i64 0, .string ⟨#[]⟩, .bool false])
    go_wp2_with (first
      | (refine wpList_blk_alloc rfl rfl Tryd.dgZ w2.heap.size rfl ?_)
      | (refine wpList_blk_store (cs := #[.int .i64 0, .int .i64 0, .string ⟨#[]⟩, .bool false]) rfl (.tmp 9) (.tmp 16) rfl rfl rfl hZ2 Tryd.dgI rfl (by simp [Value.oneCell']) ?_; intro w4 hB4 hK4 hsz4; clear hsz4))
    go_ret
    exact ⟨rfl, hb2.trans ((alloc_store hK4).mono hb2.size)⟩
  | true =>
    obtain ⟨k, rfl, hk⟩ := there_t ht
    have hgd : s.l.getD k .zero = s.l[k] := by rw [List.getD_eq_getElem?_getD, List.getElem?_eq_getElem hk]; rfl
    rw [Int.toNat_natCast, hgd] at hno
    by_cases htn : s.l[k].torn = true
    · exact turn_torn k at_ mask h hk htn
    have htf : s.l[k].torn = false := by simpa using htn
    rw [ht, if_pos rfl, Int.toNat_natCast, hgd] at HAt
    unfold dgV at HAt
    simp only at HAt
    rw [htf] at HAt
    replace HAt := Lib.hid HAt
    clear hgd htn
    generalize s.l[k] = d at *
    by_cases hd : 0 < d.data.size
    · have hm : mask = 0 := Classical.byContradiction fun hm => hno ⟨ht, htf, hd, hm⟩
      subst hm
      have hne1 : d.data.toList.isEmpty = false := by
        rw [ByteArray.toList_eq]
        cases hl : d.data.data.toList with
        | nil => have : d.data.data.toList.length = 0 := by rw [hl]; rfl
                 have h2 : d.data.size = d.data.data.toList.length := by simp
                 omega
        | cons _ _ => rfl
      have hne2 : ¬ d.data.toList = [] := fun e => by rw [e] at hne1; cases hne1
      clear hno ht h htf
      go_enter Tryd.func22, Tryd.ntmps22
      go_wp2_with fail
      (refine HAt.out.mono ?_; rintro e w2 ⟨rfl, hb2⟩; have hZ2 := BlkAt.new w2 35 #[.int .i64 0, .int .i64 0, .string ⟨#[]⟩, .bool false])
      go_wp2_with (first
        | (refine wpList_blk_alloc rfl rfl Tryd.dgZ w2.heap.size rfl ?_)
        | (refine wpList_blk_store (cs := #[.int .i64 d.src, .int .i64 d.dst, .string d.data, .bool false]) rfl (.tmp 9) (.tmp 16) rfl rfl rfl hZ2 Tryd.dgI rfl (by simp [Value.oneCell']) ?_; intro w4 hB4 hK4 hsz4; clear hsz4; obtain ⟨x0, x1, x2, x3⟩ : w4.cell? ⟨w2.heap.size, 0, none⟩ = some (.int .i64 d.src) ∧ w4.cell? ⟨w2.heap.size, 1, none⟩ = some (.int .i64 d.dst) ∧ w4.cell? ⟨w2.heap.size, 2, none⟩ = some (.string d.data) ∧ w4.cell? ⟨w2.heap.size, 3, none⟩ = some (.bool false) := ⟨hB4.cell rfl, hB4.cell rfl, hB4.cell rfl, hB4.cell rfl⟩))
      go_ret
      exact ⟨rfl, hb2.trans ((alloc_store hK4).mono hb2.size)⟩
    · have hz : d.data.size = 0 := by omega
      have hne1 : d.data.toList.isEmpty = true := by
        rw [ByteArray.toList_eq]
        have h2 : d.data.size = d.data.data.toList.length := by simp
        rw [List.isEmpty_iff_length_eq_zero]
        omega
      have hne2 : d.data.toList = [] := by simpa using hne1
      clear hno ht h htf hd hz
      go_enter Tryd.func22, Tryd.ntmps22
      go_wp2_with fail
      (refine HAt.out.mono ?_; rintro e w2 ⟨rfl, hb2⟩; have hZ2 := BlkAt.new w2 35 #[.int .i64 0, .int .i64 0, .string ⟨#[]⟩, .bool false])
      go_wp2_with (first
        | (refine wpList_blk_alloc rfl rfl Tryd.dgZ w2.heap.size rfl ?_)
        | (refine wpList_blk_store (cs := #[.int .i64 d.src, .int .i64 d.dst, .string d.data, .bool false]) rfl (.tmp 9) (.tmp 16) rfl rfl rfl hZ2 Tryd.dgI rfl (by simp [Value.oneCell']) ?_; intro w4 hB4 hK4 hsz4; clear hsz4; obtain ⟨x0, x1, x2, x3⟩ : w4.cell? ⟨w2.heap.size, 0, none⟩ = some (.int .i64 d.src) ∧ w4.cell? ⟨w2.heap.size, 1, none⟩ = some (.int .i64 d.dst) ∧ w4.cell? ⟨w2.heap.size, 2, none⟩ = some (.string d.data) ∧ w4.cell? ⟨w2.heap.size, 3, none⟩ = some (.bool false) := ⟨hB4.cell rfl, hB4.cell rfl, hB4.cell rfl, hB4.cell rfl⟩))
      go_ret
      exact ⟨rfl, hb2.trans ((alloc_store hK4).mono hb2.size)⟩
end
end Go.Proofs.YtmlkmonapnebiaaDoorR
