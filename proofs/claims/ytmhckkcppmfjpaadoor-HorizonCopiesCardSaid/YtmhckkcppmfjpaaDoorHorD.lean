/- the horizon: the walks of count's function, of slices.IndexFunc and slices.DeleteFunc with it -/
import Derived.Test.YtmhckkcppmfjpaaDoorHorC
import Derived.Test.YtmhckkcppmfjpaaDoorOwn
namespace Go.Proofs.YtmhckkcppmfjpaaDoor
open Go.RowKit Go.Sort

/-- A mark's cells in block b from 'off' on: heard of h, came to c; all else as in cs. -/
structure MkAt (w : World) (b off : Nat) (cs : Array Value) (h c : Nat) : Prop where
  blk : BlkAt w b 49 (cs.setIfInBounds off (.int .u64 h))
  lt : off < cs.size
  came : cs[off + 2]? = some (.int .u32 c)
section
variable {w w' : World} {b off h c : Nat} {cs : Array Value}
theorem MkAt.ch (k : MkAt w b off cs h c) : w.cell? ⟨b, off, none⟩ = some (.int .u64 h) := k.blk.cell (by rw [Array.getElem?_setIfInBounds, if_pos rfl, if_pos k.lt])
theorem MkAt.cc (k : MkAt w b off cs h c) : w.cell? ⟨b, off + 2, none⟩ = some (.int .u32 c) := k.blk.cell (by rw [Array.getElem?_setIfInBounds, if_neg (by omega)]; exact k.came)
theorem MkAt.below (k : MkAt w b off cs h c) (hb : Below w.heap.size w w') : MkAt w' b off cs h c := ⟨k.blk.below hb k.blk.lt, k.lt, k.came⟩
theorem MkAt.set (k : MkAt w b off cs h c) (x : Nat) : MkAt (w.setCell ⟨b, off, none⟩ (.int .u64 x)) b off cs x c := by
  have := k.blk.set off (.int .u64 x)
  rw [Array.setIfInBounds_setIfInBounds] at this
  exact ⟨this, k.lt, k.came⟩
end
/-- Does a promise count? -/
def pmQ (c : Nat) (x : Pm) : Bool := decide (x.sent ≤ c)
def hfold (c h : Nat) (l : List Pm) : Nat := l.foldl (fun h x => if pmQ c x = true then max h x.st else h) h
theorem hfold_snoc (c h : Nat) (l : List Pm) (x : Pm) : hfold c h (l ++ [x]) = if pmQ c x = true then max (hfold c h l) x.st else hfold c h l := by rw [hfold, List.foldl_append]; rfl
theorem hfold_take (c h : Nat) (l : List Pm) (j : Nat) (hj : j < l.length) : hfold c h (l.take (j + 1)) = if pmQ c l[j] = true then max (hfold c h (l.take j)) l[j].st else hfold c h (l.take j) := by
  rw [List.take_succ_eq_append_getElem hj, hfold_snoc]
theorem hfold_none (c h : Nat) (l : List Pm) (hn : ∀ x ∈ l, pmQ c x = false) : hfold c h l = h := by
  induction l generalizing h with
  | nil => rfl
  | cons x l ih =>
    show hfold c (if pmQ c x = true then max h x.st else h) l = h
    rw [if_neg (by rw [hn x (List.mem_cons_self ..)]; decide)]
    exact ih h fun y hy => hn y (List.mem_cons_of_mem _ hy)
section
variable {w : World} {cb b off h c : Nat} {cs : Array Value}
set_option maxHeartbeats 800000 in
set_option maxRecDepth 100000 in
theorem cnt_no (x : Pm) (hx : x.sent < 4294967296) (hc : c < 4294967296) (hq : pmQ c x = false) (hB : BlkAt w cb 54 #[.pointer (some ⟨b, off, none⟩)]) (hM : MkAt w b off cs h c) :
    Calls Tryd.prog 31 #[.agg #[.int .u64 x.st, .int .u32 x.sent], .pointer (some ⟨cb, 0, none⟩)] w fun e w' => e = .returned (.bool false) ∧ Below w.heap.size w w' := by
  have hb1 : Below w.heap.size w (w.alloc (.cells #[.int .u64 x.st, .int .u32 x.sent] 56)) := (Below.refl _ _).alloc (Nat.le_refl _) _
  have p0 : (w.alloc (.cells #[.int .u64 x.st, .int .u32 x.sent] 56)).cell? ⟨cb, 0, none⟩ = some (.pointer (some ⟨b, off, none⟩)) := (hB.below hb1 hB.lt).cell rfl
  have m2 := (hM.below hb1).cc
  have hI : (c : Int) < x.sent := by unfold pmQ at hq; have := of_decide_eq_false hq; omega
  go_enter Tryd.func31, Tryd.ntmps31
  go_wp2
  go_quiet (fail)
  go_wp2
  go_ret
  exact ⟨rfl, belN hb1 _⟩
set_option maxHeartbeats 1600000 in
set_option maxRecDepth 100000 in
theorem cnt_yes (x : Pm) (hx : x.sent < 4294967296) (hc : c < 4294967296) (hst : x.st < 18446744073709551616) (hh : h < 18446744073709551616) (hq : pmQ c x = true) (hB : BlkAt w cb 54 #[.pointer (some ⟨b, off, none⟩)]) (hM : MkAt w b off cs h c) :
    Calls Tryd.prog 31 #[.agg #[.int .u64 x.st, .int .u32 x.sent], .pointer (some ⟨cb, 0, none⟩)] w fun e w' => e = .returned (.bool true) ∧ MkAt w' b off cs (max h x.st) c ∧ Kp b w w' := by
  have hb1 : Below w.heap.size w (w.alloc (.cells #[.int .u64 x.st, .int .u32 x.sent] 56)) := (Below.refl _ _).alloc (Nat.le_refl _) _
  have p0 : (w.alloc (.cells #[.int .u64 x.st, .int .u32 x.sent] 56)).cell? ⟨cb, 0, none⟩ = some (.pointer (some ⟨b, off, none⟩)) := (hB.below hb1 hB.lt).cell rfl
  have hM1 := hM.below hb1
  have hX := BlkAt.new w 56 #[.int .u64 x.st, .int .u32 x.sent]
  have hK1 := Kp.ofBelow (b := b) hb1
  have hI : decide (c < x.sent) = false := by unfold pmQ at hq; have := of_decide_eq_true hq; exact decide_eq_false (by omega)
  have hB1 := hB.below hb1 hB.lt
  clear hq hM hB
  go_enter Tryd.func31, Tryd.ntmps31
  go_wp2
  generalize w.alloc _ = w1 at *
  have m2 := hM1.cc
  have x1 : w1.cell? ⟨w.heap.size, 1, none⟩ = some (.int .u32 x.sent) := hX.cell rfl
  go_quiet (fail)
  have hbq := belN (Below.refl w1.heap.size w1) nq
  have hM2 := hM1.below hbq
  have hX2 := hX.below hbq hX.lt
  have hB2 := hB1.below hbq hB1.lt
  have hK2 := hK1.drewN nq
  clear hM1 hX hB1 hK1 hbq m2 x1 p0
  generalize w1.drewN nq = w2 at *
  have m0 := hM2.ch
  have x0 : w2.cell? ⟨w.heap.size, 0, none⟩ = some (.int .u64 x.st) := hX2.cell rfl
  have p0 : w2.cell? ⟨cb, 0, none⟩ = some (.pointer (some ⟨b, off, none⟩)) := hB2.cell rfl
  have fz := hM2.blk.fz off
  by_cases hlt : h < x.st
  · have hltI : (h : Int) < x.st := by omega
    have hm := Lib.hid (show max h x.st = x.st from Nat.max_eq_right (by omega))
    have HS := Lib.hid (hM2.set x.st)
    have HK := Lib.hid (hK2.setCell ⟨b, off, none⟩ rfl (.int .u64 x.st))
    go_wp2
    go_region
    go_wp2
    go_ret
    exact ⟨rfl, by rw [hm.out]; exact HS.out.below (belN (Below.refl _ _) 1), HK.out.drew⟩
  · have hltI : ¬ (h : Int) < x.st := by omega
    have hm := Lib.hid (show max h x.st = h from Nat.max_eq_left (by omega))
    have HS := Lib.hid (hM2.set h)
    have HK := Lib.hid (hK2.setCell ⟨b, off, none⟩ rfl (.int .u64 h))
    go_wp2
    go_region
    go_wp2
    go_ret
    exact ⟨rfl, by rw [hm.out]; exact HS.out.below (belN (Below.refl _ _) 1), HK.out.drew⟩
end
end Go.Proofs.YtmhckkcppmfjpaaDoor
