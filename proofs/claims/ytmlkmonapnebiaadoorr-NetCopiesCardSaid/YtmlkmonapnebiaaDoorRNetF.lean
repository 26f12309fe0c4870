/- the net: walks of Drop, Take -/
import Derived.Test.YtmlkmonapnebiaaDoorRNetE
namespace Go.Proofs.YtmlkmonapnebiaaDoorR
open Go.RowKit Go.Sort

def NS.less (s : NS) (k : Nat) : NS := { s with l := s.l.eraseIdx k }
def NS.drop (s : NS) (i : Int) : NS × Bool := if s.there i = true then (s.less i.toNat, true) else (s, false)
section
variable {B : Nat} {w w1 w' : World} {O : Nat → Prop} {b : Nat} {s t : NS} {v : Value}
set_option maxHeartbeats 1600000 in
set_option maxRecDepth 100000 in
theorem drop_any (i : Int) (hs : s.Ok) (h : NetAt B w O b s v) :
    Calls Tryd.prog 30 #[.pointer (some ⟨b, 0, none⟩), .int .i64 i] w fun e w' => e = .returned (.bool (s.drop i).2) ∧ NetTo B w O b (s.drop i).1 w' := by
  have HT := there_any i h
  cases ht : s.there i with
  | false =>
    rw [ht] at HT
    replace HT := Lib.hid HT
    have HE := Lib.hid (show s.drop i = (s, false) from if_neg (by rw [ht]; decide))
    have HS := Lib.hid (NetTo.same h)
    clear ht h
    go_enter Tryd.func30, Tryd.ntmps30
    (go_wp2_with fail; refine (HT.out).mono ?_; rintro e w' ⟨rfl, rfl⟩)
    go_wp2
    go_ret
    exact ⟨by rw [HE.out]; rfl, by rw [HE.out]; exact HS.out⟩
  | true =>
    obtain ⟨k, rfl, hk⟩ := there_t ht
    rw [ht] at HT
    replace HT := Lib.hid HT
    have HE := Lib.hid (show s.drop k = (s.less k, true) from by rw [NS.drop, if_pos ht, Int.toNat_natCast])
    have cv := h.cv
    have hlo : B ≤ w.heap.size := Nat.le_trans (h.lo b h.ob) (Nat.le_of_lt h.lt)
    have hlen := hs.len
    have hrow := h.row
    obtain ⟨a, c, rfl, hr⟩ := h.sl
    obtain ⟨g, off, rfl, _⟩ := Rd.addr hr (by omega)
    have hz : off = 0 := by
      rcases hrow.2 with ⟨h2, _⟩ | ⟨g', cap', cur, hv, _⟩
      · cases h2
      · simp only [Value.slice.injEq, Option.some.injEq, Addr.mk.injEq, and_true] at hv
        exact hv.1.2
    subst hz
    have hgb : (some g : Option Nat) ≠ some b := h.nb
    have hD := Lib.hid (delete_any B g s.l.length c k s.l w hk (by omega) hlo hrow)
    have hX := Lib.hid (fun (w4 : World) (hg : w.grownBy w4 (some g)) ho => h.newRow (w4 := w4) (u := .slice (some ⟨g, 0, none⟩) (s.l.length - 1) c) (l := s.l.eraseIdx k) (KpO.ofGrown hg (fun k e => .inr e)) ((hg.block b h.lt (fun e => hgb e.symm)).trans h.blk) ho (.inl rfl))
    have hF := Lib.hid (fun (w4 : World) (hg : w.grownBy w4 (some g)) => h.grownCells (w4 := w4) hg)
    have HLn := Lib.hid (show (s.l.eraseIdx k).length = s.l.length - 1 from by rw [List.length_eraseIdx, if_pos hk])
    clear ht h hrow hr
    go_enter Tryd.func30, Tryd.ntmps30
    (go_wp2_with fail; refine (HT.out).mono ?_; rintro e w' ⟨rfl, rfl⟩)
    go_wp2_with fail
    refine hD.out.mono ?_
    rintro e w4 ⟨rfl, ho4, hg4⟩
    obtain ⟨s4, f4⟩ := hF.out w4 hg4
    rw [← HLn.out] at ho4 hX
    have HY := Lib.hid (hX.out w4 hg4 ho4)
    rw [HLn.out] at HY
    clear ho4 hg4
    go_wp2
    go_ret
    exact ⟨by rw [HE.out]; rfl, by rw [HE.out]; exact HY.out⟩
end
/-- What is behind a call: the net, and that a block of another's is as it was. -/
theorem NetTo.other {B : Nat} {w w' : World} {O : Nat → Prop} {b c : Nat} {t : NS} {ty : TypeId} {cs : Array Value} (h : NetTo B w O b t w') (hc : BlkAt w c ty cs) (hO : ¬ O c) : BlkAt w' c ty cs := by
  obtain ⟨_, _, _, h2, _⟩ := h
  exact h2.blk hc hO
/-- A store into a block of another's. -/
theorem NetTo.aside {B : Nat} {w0 w w' w2 : World} {O : Nat → Prop} {b c : Nat} {t : NS} (h : NetTo B w O b t w') (hb : Below w0.heap.size w0 w) (hO : ∀ g, O g → g < w0.heap.size) (hc : w0.heap.size ≤ c) (hc2 : c < w.heap.size) (hk : Kp c w' w2) : NetTo B w0 O b t w2 := by
  obtain ⟨O', v, h1, h2, h3⟩ := h
  have hne : ∀ g, O' g → ¬ g = c := fun g hg e => by
    rcases h3 g hg with h4 | h4
    · have := hO g h4; omega
    · omega
  refine ⟨O', v, h1.frame (KpO.ofKp (O := fun g => g = c) hk rfl) hne, ?_, fun g hg => (h3 g hg).imp id (fun h => Nat.le_trans hb.size h)⟩
  exact ((KpO.ofBelow hb).trans h2 (fun g hg => .inl hg)).trans (KpO.ofKp (O := fun g => g = c) hk rfl) (fun g hg => .inr (by rw [hg]; exact hc))
def NS.take (s : NS) (i : Int) : NS × (Dg × Bool) :=
  if s.there i = true then (s.less i.toNat, if s.linked (s.l.getD i.toNat .zero).src (s.l.getD i.toNat .zero).dst = true then (s.l.getD i.toNat .zero, true) else (.zero, false)) else (s, (.zero, false))
theorem NS.less_ok {s : NS} (h : s.Ok) (k : Nat) : (s.less k).Ok := ⟨h.n, h.links, Nat.le_trans (List.length_eraseIdx_le ..) h.len⟩
section
variable {B : Nat} {w w1 w' : World} {O : Nat → Prop} {b : Nat} {s t : NS} {v : Value}
set_option maxHeartbeats 3200000 in
set_option maxRecDepth 100000 in
theorem take_any (i : Int) (hs : s.Ok) (h : NetAt B w O b s v) :
    Calls Tryd.prog 16 #[.pointer (some ⟨b, 0, none⟩), .int .i64 i] w fun e w' => e = .returned (dgV (s.take i).2) ∧ NetTo B w O b (s.take i).1 w' := by
  have hbx : Below w.heap.size w (w.alloc (.cells #[.int .i64 0, .int .i64 0, .string ⟨#[]⟩, .bool false] 35)) := (Below.refl _ _).alloc (Nat.le_refl _) _
  have hZ := BlkAt.new w 35 #[.int .i64 0, .int .i64 0, .string ⟨#[]⟩, .bool false]
  have h1 := h.below hbx
  have HAt := Lib.hid (at_any i h1)
  have hOlt := h.hi
  cases ht : s.there i with
  | false =>
    have HE := Lib.hid (show s.take i = (s, (.zero, false)) from if_neg (by rw [ht]; decide))
    have HA := Lib.hid (show s.at i = (.zero, false) from if_neg (by rw [ht]; decide))
    rw [HA.out] at HAt
    unfold dgV Dg.zero at HAt
    simp only at HAt
    clear ht
    go_enter Tryd.func16, Tryd.ntmps16
    go_wp2_with (refine wpList_blk_alloc rfl rfl Tryd.dgZ w.heap.size rfl ?_)
    generalize w.alloc _ = wa at *
    refine HAt.out.mono ?_
    rintro e w2 ⟨rfl, hb2⟩
    have hZ2 := BlkAt.new w2 35 #[.int .i64 0, .int .i64 0, .string ⟨#[]⟩, .bool false]
    have hb3 := hbx.trans (hb2.mono hbx.size)
    go_wp2_with (first
      | (refine wpList_blk_alloc rfl rfl Tryd.dgZ w2.heap.size rfl ?_)
      | (refine wpList_blk_store rfl (.tmp 6) (.tmp 12) rfl rfl rfl hZ2 Tryd.dgI rfl (dg_one .zero) ?_; intro w4 hB4 hK4 hsz4; have hb4 := hb3.trans ((alloc_store hK4).mono hb3.size); have hz4 := (hZ.below hb2 hZ.lt).below (alloc_store hK4) (hZ.below hb2 hZ.lt).lt)
      | (refine wpList_blk_build (cs := #[.int .i64 0, .int .i64 0, .string ⟨#[]⟩, .bool false]) rfl #[] rfl Tryd.dgB ?_)
      | (refine wpList_blk_store rfl (.tmp 4) (.tmp 31) rfl rfl rfl hz4 Tryd.dgI rfl (dg_one .zero) ?_; intro w9 hB9 hK9 hsz9))
    (refine bodyPost_ret (results_row1 rfl _ _ w.heap.size 35 _ (0, 0) _ rfl hB9 Tryd.underlying35 rfl Tryd.dgI) rfl ?_)
    exact ⟨by rw [HE.out]; rfl, by rw [HE.out]; exact NetTo.pre (NetTo.same ((h.below hb4).frame (KpO.ofKp (O := fun g => g = w.heap.size) hK9 rfl) (fun g hg e => by have := hOlt g hg; omega))) (Kp.below hb4 hK9 (Nat.le_refl _) hb4.size)⟩
  | true =>
    obtain ⟨k, rfl, hk⟩ := there_t ht
    have hgd : s.l.getD k .zero = s.l[k] := by rw [List.getD_eq_getElem?_getD, List.getElem?_eq_getElem hk]; rfl
    have HE := (show s.take k = (s.less k, if s.linked s.l[k].src s.l[k].dst = true then (s.l[k], true) else (.zero, false)) from by rw [NS.take, if_pos ht, Int.toNat_natCast, hgd])
    have HA := Lib.hid (show s.at k = (s.l[k], true) from by rw [NS.at, if_pos ht, Int.toNat_natCast, hgd])
    have HDr := Lib.hid (show s.drop k = (s.less k, true) from by rw [NS.drop, if_pos ht, Int.toNat_natCast])
    rw [HA.out] at HAt
    clear HA hgd
    generalize s.l[k] = d at *
    have hLk := Lib.hid (fun (W : World) O' v' (hn : NetAt B W O' b (s.less k) v') => linked_any d.src d.dst (NS.less_ok hs k) hn)
    rw [show (s.less k).linked d.src d.dst = s.linked d.src d.dst from rfl] at hLk
    unfold dgV at HAt
    simp only at HAt
    clear ht
    generalize hlk : s.linked d.src d.dst = lk at *
    go_enter Tryd.func16, Tryd.ntmps16
    go_wp2_with (refine wpList_blk_alloc rfl rfl Tryd.dgZ w.heap.size rfl ?_)
    generalize w.alloc _ = wa at *
    refine HAt.out.mono ?_
    rintro e w2 ⟨rfl, hb2⟩
    have hZ2 := BlkAt.new w2 35 #[.int .i64 0, .int .i64 0, .string ⟨#[]⟩, .bool false]
    have hb3 := hbx.trans (hb2.mono hbx.size)
    go_wp2_with (first
      | (refine wpList_blk_alloc rfl rfl Tryd.dgZ w2.heap.size rfl ?_)
      | (refine wpList_blk_store (cs := #[.int .i64 d.src, .int .i64 d.dst, .string d.data, .bool d.torn]) rfl (.tmp 6) (.tmp 12) rfl rfl rfl hZ2 Tryd.dgI rfl (dg_one d) ?_; intro w4 hB4 hK4 hsz4; have hb4 := hb3.trans ((alloc_store hK4).mono hb3.size); have hz4 := (hZ.below hb2 hZ.lt).below (alloc_store hK4) (hZ.below hb2 hZ.lt).lt))
    have hD := drop_any k hs (h.below hb4)
    rw [HDr.out] at hD
    refine hD.mono ?_
    rintro e w5 ⟨rfl, hnt⟩
    have hB5 := hnt.other hB4 (fun hc => by have := hOlt _ hc; have := hb3.size; omega)
    have hz5 := hnt.other hz4 (fun hc => by have := hOlt _ hc; omega)
    have hlt4 := hz4.lt
    have hnt0 := Lib.hid hnt
    obtain ⟨O', v', hn5, _, _⟩ := hnt
    have HLL := Lib.hid (hLk.out w5 O' v' hn5)
    clear hD hn5 hB4 hz4 hZ2 hZ h1 h
    obtain ⟨x0, x1, x2, x3⟩ : w5.cell? ⟨w2.heap.size, 0, none⟩ = some (.int .i64 d.src) ∧ w5.cell? ⟨w2.heap.size, 1, none⟩ = some (.int .i64 d.dst) ∧ w5.cell? ⟨w2.heap.size, 2, none⟩ = some (.string d.data) ∧ w5.cell? ⟨w2.heap.size, 3, none⟩ = some (.bool d.torn) := ⟨hB5.cell rfl, hB5.cell rfl, hB5.cell rfl, hB5.cell rfl⟩
    go_wp2_with fail
    refine HLL.out.mono ?_
    rintro e w' ⟨rfl, rfl⟩
    cases lk with
    | true =>
      have HE2 := Lib.hid (show s.take k = (s.less k, (d, true)) from HE)
      clear HE hlk
      go_wp2_with (refine wpList_blk_store (cs := #[.int .i64 d.src, .int .i64 d.dst, .string d.data, .bool d.torn]) rfl (.tmp 4) (.tmp 32) rfl rfl rfl hz5 Tryd.dgI rfl (dg_one d) ?_; intro w9 hB9 hK9 hsz9)
      (refine bodyPost_ret (results_row1 rfl _ _ w.heap.size 35 _ (0, 0) _ rfl hB9 Tryd.underlying35 rfl Tryd.dgI) rfl ?_)
      exact ⟨by rw [HE2.out]; rfl, by rw [HE2.out]; exact NetTo.aside hnt0.out hb4 hOlt (Nat.le_refl _) hlt4 hK9⟩
    | false =>
      have HE2 := Lib.hid (show s.take k = (s.less k, (.zero, false)) from HE)
      clear HE hlk
      go_wp2_with (first
        | (refine wpList_blk_build (cs := #[.int .i64 0, .int .i64 0, .string ⟨#[]⟩, .bool false]) rfl #[] rfl Tryd.dgB ?_)
        | (refine wpList_blk_store rfl (.tmp 4) (.tmp 31) rfl rfl rfl hz5 Tryd.dgI rfl (dg_one .zero) ?_; intro w9 hB9 hK9 hsz9))
      (refine bodyPost_ret (results_row1 rfl _ _ w.heap.size 35 _ (0, 0) _ rfl hB9 Tryd.underlying35 rfl Tryd.dgI) rfl ?_)
      exact ⟨by rw [HE2.out]; rfl, by rw [HE2.out]; exact NetTo.aside hnt0.out hb4 hOlt (Nat.le_refl _) hlt4 hK9⟩
end
end Go.Proofs.YtmlkmonapnebiaaDoorR
