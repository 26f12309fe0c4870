/- the horizon: walks of count, Came, Promise -/
import Derived.Test.YtmhckkcppmfjpaaDoorHorF
namespace Go.Proofs.YtmhckkcppmfjpaaDoor
open Go.RowKit Go.Sort

section
variable {w : World} {cb b off h c : Nat} {cs : Array Value}
/-- DeleteFunc with count's function, over a mark's row. -/
theorem del_any (B n : Nat) (sv : Value) (l : List Pm) (hl : PmsOk l) (hn : n ≤ 1000000) (hc : c < 4294967296) (hh : h < 18446744073709551616) (hcg : ∀ g, sv.ownBlock = some g → cb ≠ g) (hcb : cb ≠ b) (hgb : ∀ g, sv.ownBlock = some g → g ≠ b)
    (hown : w.ownsRow B 56 2 sv n (l.flatMap pmF)) (hB : BlkAt w cb 54 #[.pointer (some ⟨b, off, none⟩)]) (hM : MkAt w b off cs h c) :
    Calls Tryd.prog 30 #[sv, .func (Fn.func 31) #[] #[.pointer (some ⟨cb, 0, none⟩)]] w fun e w' => ∃ v, e = .returned v ∧ v.ownBlock = sv.ownBlock ∧ w'.ownsRow B 56 2 v (l.filter (pmN c)).length ((l.filter (pmN c)).flatMap pmF) ∧ MkAt w' b off cs (hfold c h l) c ∧ KpO (fun k => k = b ∨ sv.ownBlock = some k) w w' := by
  obtain ⟨sa, cp, rfl, hr⟩ := Rd.own hown
  have hr : RdP w sa n cp l := hr
  cases hi : l.findIdx? (pmQ c) with
  | none =>
    have hno := List.findIdx?_eq_none_iff.1 hi
    refine (del_none sa n cp l hl hc hno hr hB hM).mono ?_
    rintro e w' ⟨rfl, hb⟩
    have hf : l.filter (pmN c) = l := List.filter_eq_self.2 fun v hv => by rw [pmN, hno v hv]; rfl
    rw [hf, hr.len, hfold_none c h l hno]
    exact ⟨_, rfl, rfl, own_belowB hown hb, hM.below hb, KpO.ofBelow hb⟩
  | some i0 =>
    obtain ⟨hlt0, _, _⟩ := List.findIdx?_eq_some_iff_getElem.1 hi
    have hln := hr.len
    have hown' := hown
    rcases hown.2 with ⟨hv, hz⟩ | ⟨g, cap, cur, hv, _⟩
    · omega
    · simp only [Value.slice.injEq, true_and] at hv
      obtain ⟨rfl, rfl⟩ := hv
      refine (del_some B g n cp l i0 hl hn hc hh (hcg g rfl) hcb (hgb g rfl) hown' hB hM hi).mono ?_
      rintro e w' ⟨k, rfl, rfl, h1, h2, h3⟩
      refine ⟨_, rfl, rfl, h1, h2, ?_⟩
      exact h3.trans (KpO.refl (fun _ => False) _) (fun g hg => hg.elim) |> fun h => ⟨h.os, h.tape, h.output, h.size, fun k hk hn => h.block k hk (fun hc => hn (hc.elim .inl (fun e => .inr (by rw [e]; rfl))))⟩
end
def Mk.count (m : Mk) : Mk := { m with heard := hfold m.came m.heard m.ws, ws := m.ws.filter (pmN m.came) }
section
variable {B : Nat} {w : World} {O : Nat → Prop} {b : Nat} {s : HS} {vs : Nat → Value}
theorem HorAt.mkAt (h : HorAt B w O b s vs) (p : Nat) (hp : p < 64) : MkAt w b (2 + p * 4) (horC s vs) (s.l p).heard (s.l p).came := by
  refine ⟨?_, by rw [horC_size]; omega, (rowC_at (pre := s.pre) (f := fun i => mkC (s.l i) (vs i)) (j := 2) (fun _ => rfl) hp (by decide)).trans rfl⟩
  have e := horC_cell s vs p 0 hp (by decide) (.int .u64 (s.l p).heard) (s.l p) rfl
  rw [Nat.add_zero] at e
  rw [e]
  have : s.set p (s.l p) = s := by
    unfold HS.set
    cases s
    congr 1
    funext k
    dsimp only
    split
    · rename_i e; rw [e]
    · rfl
  rw [this]
  exact h.blk
theorem HorAt.cut {O' : Nat → Prop} (h : HorAt B w O' b s vs) (hO : ∀ g, O' g → O g) (lo : ∀ g, O g → B ≤ g) (hi : ∀ g, O g → g < w.heap.size) : HorAt B w O b s vs :=
  ⟨h.blk, h.row, h.sep, fun i hi' g hg => hO g (h.own i hi' g hg), h.nb, hO b h.ob, lo, hi⟩
theorem HorAt.rowIn (h : HorAt B w O b s vs) {p : Nat} (hp : p < 64) : ∀ g, (g = b ∨ (vs p).ownBlock = some g) → O g := fun g hg => by
  rcases hg with rfl | hg
  · exact h.ob
  · exact h.own p hp g hg
theorem HorAt.counted {w4 : World} {p : Nat} {v : Value} (h : HorAt B w O b s vs) (hp : p < 64) (hM : MkAt w4 b (2 + p * 4) (horC s vs) (hfold (s.l p).came (s.l p).heard (s.l p).ws) (s.l p).came)
    (ho : w4.ownsRow B 56 2 v ((s.l p).ws.filter (pmN (s.l p).came)).length (((s.l p).ws.filter (pmN (s.l p).came)).flatMap pmF)) (hvo : v.ownBlock = (vs p).ownBlock) (hk : KpO (fun k => k = b ∨ (vs p).ownBlock = some k) w w4) :
    HorAt B (w4.setCell ⟨b, 2 + p * 4 + 3, none⟩ v) O b (s.set p (s.l p).count) (setV vs p v) ∧ KpO O w (w4.setCell ⟨b, 2 + p * 4 + 3, none⟩ v) := by
  have hks : KpO (fun k => k = b ∨ (vs p).ownBlock = some k) w (w4.setCell ⟨b, 2 + p * 4 + 3, none⟩ v) := hk.setCell _ (.inl rfl) _
  have hblk := hM.blk.set (2 + p * 4 + 3) v
  have e := horC_cell s vs p 0 hp (by decide) (.int .u64 (hfold (s.l p).came (s.l p).heard (s.l p).ws : Nat)) { s.l p with heard := hfold (s.l p).came (s.l p).heard (s.l p).ws } rfl
  rw [Nat.add_zero] at e
  rw [e, horC_set (s.set p _) vs p 3 hp (by decide) v (s.l p).count v (by rw [HS.set_at]; rfl), HS.set_set] at hblk
  have hrow : (w4.setCell ⟨b, 2 + p * 4 + 3, none⟩ v).ownsRow B 56 2 v ((s.l p).ws.filter (pmN (s.l p).came)).length (((s.l p).ws.filter (pmN (s.l p).came)).flatMap pmF) :=
    own_keep ho fun g hg _ => Below.heap_setCell _ _ _ _ (fun e => h.nb p hp (by rw [← hvo, hg, e]))
  have h2 := HorAt.newRow (t := s.set p (s.l p).count) h hp hks hblk (fun i hi => by rw [HS.set_ne _ _ _ hi]) (by rw [HS.set_at]; exact hrow) (.inl hvo)
  refine ⟨h2.cut (fun g hg => ?_) h.lo (fun g hg => Nat.lt_of_lt_of_le (h.hi g hg) hks.size), ⟨hks.os, hks.tape, hks.output, hks.size, fun k hk hn => hks.block k hk (fun hc => hn (h.rowIn hp k hc))⟩⟩
  rcases hg with hg | hg
  · exact hg
  · exact h.own p hp g (by rw [← hvo]; exact hg)
set_option maxHeartbeats 3200000 in
set_option maxRecDepth 100000 in
theorem count_any (p : Nat) (hp : p < 64) (hs : s.Ok) (hlen : (s.l p).ws.length ≤ 1000000) (h : HorAt B w O b s vs) :
    Calls Tryd.prog 25 #[.pointer (some ⟨b, 2 + p * 4, none⟩)] w fun e w' => e = .returned (.tuple #[]) ∧ ∃ v, HorAt B w' O b (s.set p (s.l p).count) (setV vs p v) ∧ v.ownBlock = (vs p).ownBlock ∧ KpO O w w' := by
  have hbx : Below w.heap.size w (w.alloc (.cells #[.pointer (some ⟨b, 2 + p * 4, none⟩)] 54)) := (Below.refl _ _).alloc (Nat.le_refl _) _
  have h1 := h.below hbx
  have hB := BlkAt.new w 54 #[.pointer (some ⟨b, 2 + p * 4, none⟩)]
  have hlt := h.lt
  have hne : w.heap.size ≠ b := by omega
  have hrl := (h.row p hp).lt
  have hcg : ∀ g, (vs p).ownBlock = some g → w.heap.size ≠ g := fun g hg e => by have := hrl g hg; omega
  have hnb : ∀ g, (vs p).ownBlock = some g → g ≠ b := fun g hg e => h.nb p hp (by rw [hg, e])
  have HKK := Lib.hid (KpO.ofBelow (O := O) hbx)
  clear hrl hbx h
  go_enter Tryd.func25, Tryd.ntmps25
  go_wp2
  generalize w.alloc _ = w1 at *
  have p0 : w1.cell? ⟨w.heap.size, 0, none⟩ = some (.pointer (some ⟨b, 2 + p * 4, none⟩)) := hB.cell rfl
  obtain ⟨_, _, _, d3⟩ := h1.mrk p hp
  have hbd : Below w1.heap.size w1 w1.drew := belN (Below.refl _ _) 1
  have HD := Lib.hid (del_any (cs := horC s vs) B (s.l p).ws.length (vs p) (s.l p).ws ⟨hs.st p, hs.sent p⟩ hlen (hs.came p) (hs.heard p) hcg hne hnb ((h1.below hbd).row p hp) (hB.below hbd hB.lt) ((h1.below hbd).mkAt p hp))
  have HX := Lib.hid (fun (w4 : World) (v : Value) hM ho hvo hk => HorAt.counted (w4 := w4) (v := v) (h1.below hbd) hp hM ho hvo hk)
  have HB2 := Lib.hid (fun (w4 : World) (hk : KpO (fun k => k = b ∨ (vs p).ownBlock = some k) w1.drew w4) => (hk.blk (hB.below hbd hB.lt) (fun hc => by
    rcases hc with h | h
    · exact hne h
    · exact hcg _ h rfl)).cell (i := 0) rfl)
  have HC3 := Lib.hid (fun (w4 : World) h c (hM : MkAt w4 b (2 + p * 4) (horC s vs) h c) => show w4.cell? ⟨b, 2 + p * 4 + 3, none⟩ = some (vs p) from hM.blk.cell (by
    rw [Array.getElem?_setIfInBounds, if_neg (by omega)]
    exact (rowC_at (pre := s.pre) (f := fun i => mkC (s.l i) (vs i)) (j := 3) (fun _ => rfl) hp (by decide)).trans rfl))
  generalize hsv : vs p = sv at *
  have HSV := Lib.hid hsv
  clear hlen hnb hcg hsv
  go_region_law (first
    | (go_simp; go_at_call 30; refine HD.out.mono ?_; rintro e w4 ⟨v, rfl, hvo, ho4, hM4, hk4⟩;
       obtain ⟨a4, c4, rfl, _⟩ := Rd.own ho4;
       have p4 := HB2.out _ hk4;
       have s4 := HC3.out _ _ _ hM4;
       have f4 : w4.frozen? ⟨b, 2 + p * 4 + 3, none⟩ = false := hM4.blk.fz _;
       have HY := Lib.hid (HX.out w4 _ hM4 ho4 hvo hk4);
       replace hvo := Lib.hid hvo))
  all_goals
    go_wp2
    go_end0
    exact ⟨rfl, _, HY.out.1, hvo.out.trans (by rw [HSV.out]), HKK.out.trans ((KpO.ofBelow hbd).trans HY.out.2 (fun g hg => .inl hg)) (fun g hg => .inl hg)⟩
end
end Go.Proofs.YtmhckkcppmfjpaaDoor
