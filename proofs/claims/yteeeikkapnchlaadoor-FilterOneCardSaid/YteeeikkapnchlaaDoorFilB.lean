/- filter: a filter as it lies; New, Close, Formed, Record -/
import Derived.Test.YteeeikkapnchlaaDoorFilA
namespace Go.Proofs.YteeeikkapnchlaaDoor
set_option linter.unusedSimpArgs false
set_option linter.unusedVariables false
open Go.RowKit Go.Sort
/-- A filter, without where it lies. -/
structure Fs where
  rc : Rc
  ce : Nat
  cr : Int
  mem : Nat
  live : Bool
  formed : Bool
  told : List (Int × Itm)
  tried : Option Vw
  agr : Nat
/-- A filter: what it knows, and where that lies. -/
structure Fw where
  rc : Rc
  ra : Option Addr
  rn : Nat
  rk : Nat
  ce : Nat
  cr : Int
  mem : Nat
  live : Bool
  formed : Bool
  mb : Option Nat
  told : List (Int × Iw)
  tb : Option Nat
  tv : Vw
  agr : Nat
def Fw.s (s : Fw) : Fs := ⟨s.rc, s.ce, s.cr, s.mem, s.live, s.formed, s.told.map fun p => (p.1, p.2.v), s.tb.map fun _ => s.tv, s.agr⟩
def ptrB (t : Option Nat) : Option Addr := t.map fun b => ⟨b, 0, none⟩
def fwA (s : Fw) : Array Value := #[.int .u64 s.rc.last.num, .int .u64 s.rc.last.ce, .int .i64 s.rc.last.cr, .int .u64 s.rc.last.mem, .slice s.ra s.rn s.rk, .int .u64 s.ce, .int .i64 s.cr, .int .u64 s.mem, .bool s.live, .bool s.formed, .map s.mb, .pointer (ptrB s.tb), .int .u64 s.agr]
def tlM (l : List (Int × Iw)) : List (Int × Value) := l.map fun p => (p.1, .agg (iwA p.2))
structure Fw.Ok (s : Fw) : Prop where
  mem : s.mem < 18446744073709551616
  agr : s.agr < 18446744073709551616
  rc : s.rc.Wf ∧ s.rc.pend.length ≤ 1000
  told : ∀ p ∈ s.told, p.2.v.Wf ∧ hasB s.mem p.1 = true
  tv : s.tv.Wf
structure FAt (F : Nat → Prop) (w : World) (b : Nat) (s : Fw) : Prop where
  blk : BlkAt w b 71 (fwA s)
  map : ∀ m, s.mb = some m → MapAt w m (tlM s.told) ∧ F m
  non : s.mb = none → s.told = [] ∧ s.live = false
  rd : RdF F w 4 s.ra s.rn s.rk (s.rc.pend.flatMap vwF)
  inn : ∀ p ∈ s.told, InF F w p.2
  tri : ∀ t, s.tb = some t → BlkAt w t 35 (vwA s.tv) ∧ ¬ F t
  own : F b
  ok : s.Ok
/-- What a filter's calls write. -/
def OwnF (b : Nat) (m : Option Nat) (g : Nat) : Prop := g = b ∨ m = some g
section
variable {F F' O : Nat → Prop} {w w' : World} {b : Nat} {s : Fw}
theorem FAt.below (h : FAt F w b s) (hb : Below w.heap.size w w') : FAt F w' b s :=
  ⟨h.blk.below hb h.blk.lt, fun m e => ⟨(h.map m e).1.below hb (h.map m e).1.lt, (h.map m e).2⟩, h.non, h.rd.below hb, fun p hp => (h.inn p hp).below hb, fun t e => ⟨(h.tri t e).1.below hb (h.tri t e).1.lt, (h.tri t e).2⟩, h.own, h.ok⟩
theorem FAt.kpO (h : FAt F w b s) (hk : KpO O w w') (hO : ∀ g, O g → F g) (hb : ¬ O b) (hm : ∀ m, s.mb = some m → ¬ O m) : FAt F w' b s :=
  ⟨hk.blk h.blk hb, fun m e => ⟨(h.map m e).1.kpO hk (hm m e), (h.map m e).2⟩, h.non, h.rd.kpO hk hO, fun p hp => (h.inn p hp).kpO hk hO, fun t e => ⟨hk.blk (h.tri t e).1 (fun ho => (h.tri t e).2 (hO t ho)), (h.tri t e).2⟩, h.own, h.ok⟩
theorem FAt.more (h : FAt F w b s) (hF : ∀ g, F' g → F g ∨ w.heap.size ≤ g) (hF2 : ∀ g, F g → F' g) : FAt F' w b s :=
  ⟨h.blk, fun m e => ⟨(h.map m e).1, hF2 _ (h.map m e).2⟩, h.non, h.rd.more hF, fun p hp => (h.inn p hp).more hF, fun t e => ⟨(h.tri t e).1, fun hf => by
    rcases hF t hf with hf | hf
    · exact (h.tri t e).2 hf
    · have := (h.tri t e).1.lt
      omega⟩, hF2 _ h.own, h.ok⟩
theorem FAt.less (h : FAt F w b s) (hF : ∀ g, F' g → F g) (hb : F' b) (hm : ∀ m, s.mb = some m → F' m) : FAt F' w b s :=
  ⟨h.blk, fun m e => ⟨(h.map m e).1, hm m e⟩, h.non, ⟨h.rd.1, fun hn g off e hf => h.rd.2 hn g off e (hF g hf)⟩, fun p hp => ⟨(h.inn p hp).1, fun hn g off e hf => (h.inn p hp).2 hn g off e (hF g hf)⟩, fun t e => ⟨(h.tri t e).1, fun hf => (h.tri t e).2 (hF t hf)⟩, hb, h.ok⟩
theorem FAt.cells (h : FAt F w b s) : w.cell? ⟨b, 7, none⟩ = some (.int .u64 s.mem) ∧ w.cell? ⟨b, 8, none⟩ = some (.bool s.live) ∧ w.cell? ⟨b, 9, none⟩ = some (.bool s.formed) ∧ w.cell? ⟨b, 10, none⟩ = some (.map s.mb) ∧ w.cell? ⟨b, 11, none⟩ = some (.pointer (ptrB s.tb)) ∧ w.cell? ⟨b, 12, none⟩ = some (.int .u64 s.agr) :=
  ⟨h.blk.cell rfl, h.blk.cell rfl, h.blk.cell rfl, h.blk.cell rfl, h.blk.cell rfl, h.blk.cell rfl⟩
theorem FAt.len (h : FAt F w b s) : s.rc.pend.length = s.rn := RdV.len h.rd.1
theorem FAt.kp1 {w1 : World} (h : FAt F w b s) (hk : Kp b w w1) (s' : Fw) (hB : BlkAt w1 b 71 (fwA s')) (h1 : s'.rc = s.rc ∧ s'.ra = s.ra ∧ s'.rn = s.rn ∧ s'.rk = s.rk ∧ s'.mb = s.mb ∧ s'.told = s.told ∧ s'.tb = s.tb ∧ s'.tv = s.tv) (h2 : s'.mb = none → s'.live = false) (ok : s'.Ok) : FAt F w1 b s' := by
  obtain ⟨e0, e1, e2, e3, e4, e5, e6, e7⟩ := h1
  have hO : KpO (fun g => g = b) w w1 := KpO.ofKp hk rfl
  have hF : ∀ g, g = b → F g := fun g e => e ▸ h.own
  refine ⟨hB, fun m e => ?_, fun e => ⟨by rw [e5]; exact (h.non (by rw [← e4]; exact e)).1, h2 e⟩, ?_, fun p hp => ?_, fun t e => ?_, h.own, ok⟩
  · rw [e5]
    obtain ⟨h3, h4⟩ := h.map m (by rw [← e4]; exact e)
    exact ⟨h3.kp hk (fun e => (h3.ne_blk h.blk) e.symm), h4⟩
  · rw [e0, e1, e2, e3]; exact h.rd.kpO hO hF
  · rw [e5] at hp; exact (h.inn p hp).kpO hO hF
  · rw [e7]
    obtain ⟨h3, h4⟩ := h.tri t (by rw [← e6]; exact e)
    exact ⟨hk.blk h3 (fun e => h4 (e ▸ h.own)), h4⟩
end
theorem Tryd.fwI (s : Fw) : (Tryd.prog.info? 71).map (·.size) = some (fwA s).size := by show _ = some 13; kernel_rfl
theorem fwA_one (s : Fw) : (fwA s).all (·.oneCell') = true := by simp [fwA, Value.oneCell']
theorem fwA_rec (s : Fw) : ∀ j v, (#[.int .u64 s.rc.last.num, .int .u64 s.rc.last.ce, .int .i64 s.rc.last.cr, .int .u64 s.rc.last.mem, .slice s.ra s.rn s.rk] : Array Value).toList[j]? = some v → (fwA s)[0 + j]? = some v := by
  intro j v h
  rcases j with _ | _ | _ | _ | _ | j
  · exact h
  · exact h
  · exact h
  · exact h
  · exact h
  · cases h
theorem fwA_conf (s : Fw) : ∀ j v, (#[Value.int .u64 s.ce, .int .i64 s.cr] : Array Value).toList[j]? = some v → (fwA s)[5 + j]? = some v := by
  intro j v h
  rcases j with _ | _ | j
  · exact h
  · exact h
  · cases h
def newW (rc : Rc) (a : Option Addr) (n c : Nat) : Fw := ⟨rc, a, n, c, 0, 0, 0, false, false, none, [], none, .zero, 0⟩
theorem Tryd.bldN (u : Vw) (a : Option Addr) (n c : Nat) : Tryd.prog.built 71 [(0, .agg #[.int .u64 u.num, .int .u64 u.ce, .int .i64 u.cr, .int .u64 u.mem, .slice a n c])] = some (fwA (newW ⟨u, []⟩ a n c)) := by kernel_rfl
theorem vz_wf : Vw.zero.Wf := ⟨by decide, by decide⟩
theorem newW_ok {rc : Rc} {a : Option Addr} {n c : Nat} (h : rc.Wf) (hl : rc.pend.length ≤ 1000) : (newW rc a n c).Ok := ⟨by show 0 < 18446744073709551616; decide, by show 0 < 18446744073709551616; decide, ⟨h, hl⟩, (fun p hp => by cases hp), vz_wf⟩
set_option maxHeartbeats 1600000 in
set_option maxRecDepth 100000 in
theorem fnew_any (F : Nat → Prop) (rc : Rc) (pa : Option Addr) (pn pc : Nat) (hwf : rc.Wf) (hn : rc.pend.length ≤ 1000) (w : World) (hF : ∀ g, F g → g < w.heap.size) (hr : RdV w pa pn pc rc.pend) :
    Calls Tryd.prog 9 #[.agg #[.int .u64 rc.last.num, .int .u64 rc.last.ce, .int .i64 rc.last.cr, .int .u64 rc.last.mem, .slice pa pn pc]] w fun e w' => ∃ b a c, e = .returned (.pointer (some ⟨b, 0, none⟩)) ∧ FAt (fun g => F g ∨ g = b) w' b (newW rc a pn c) ∧ w.heap.size ≤ b ∧ Below w.heap.size w w' := by
  have hA := BlkAt.new w 38 #[.int .u64 rc.last.num, .int .u64 rc.last.ce, .int .i64 rc.last.cr, .int .u64 rc.last.mem, .slice pa pn pc]
  have hb1 := alloc_below w (.cells #[.int .u64 rc.last.num, .int .u64 rc.last.ce, .int .i64 rc.last.cr, .int .u64 rc.last.mem, .slice pa pn pc] 38)
  have hr1 := hr.below hb1 (Nat.le_refl _)
  have hln := hr.len
  go_enter Tryd.func9, Tryd.ntmps9
  go_wp2_with (first
    | (refine wpList_blk_box rfl (.tmp 0) rfl rfl w.heap.size rfl ?_)
    | (refine wpList_blk_load rfl (.tmp 1) rfl Tryd.underlying38 rfl rfl hA Tryd.recI ?_))
  refine (own_any rc.last pa pn pc rc.pend (by omega) _ hr1).mono ?_
  rintro e w2 ⟨a, c, rfl, hr2, hb2, hge⟩
  have hB2 := belS hb1 hb2
  go_wp2_with (first
    | (refine wpList_blk_build (cs := fwA (newW ⟨rc.last, []⟩ a pn c)) rfl #[(0, .tmp 4)] rfl (by rw [List.map_toArray]; exact Tryd.bldN rc.last a pn c) ?_)
    | (refine wpList_blk_box rfl (.tmp 5) rfl rfl w2.heap.size rfl ?_))
  go_ret
  have hb3 := alloc_below w2 (.cells (fwA (newW ⟨rc.last, []⟩ a pn c)) 71)
  have hX : RdF F w2 4 a pn c (rc.pend.flatMap vwF) := ⟨hr2, Off.fresh hge (fun g hg => Nat.lt_of_lt_of_le (hF g hg) hb1.size)⟩
  refine ⟨w2.heap.size, a, c, rfl, ⟨BlkAt.new w2 _ _, (fun m e => by cases e), (fun _ => ⟨rfl, rfl⟩), ?_, (fun p hp => by cases hp), (fun t e => by cases e), .inr rfl, newW_ok hwf hn⟩, hB2.size, belS hB2 hb3⟩
  exact (hX.more (F' := fun g => F g ∨ g = w2.heap.size) (fun g hg => hg.elim .inl (fun e => .inr (Nat.le_of_eq e.symm)))).below hb3
set_option maxHeartbeats 1600000 in
set_option maxRecDepth 100000 in
theorem closeA {F : Nat → Prop} (s : Fw) (b : Nat) (w : World) (h : FAt F w b s) :
    Calls Tryd.prog 11 #[.pointer (some ⟨b, 0, none⟩)] w fun e w' => e = .returned (.tuple #[]) ∧ FAt F w' b { s with live := false } ∧ Kp b w w' := by
  obtain ⟨c7, c8, c9, c10, c11, c12⟩ := h.cells
  have f8 := h.blk.fz 8
  have hB := h.blk.set 8 (.bool false)
  have hK := (Kp.refl b w).setCell ⟨b, 8, none⟩ rfl (.bool false)
  go_enter Tryd.func11, Tryd.ntmps11
  go_wp2
  go_end0
  exact ⟨rfl, h.kp1 hK { s with live := false } hB ⟨rfl, rfl, rfl, rfl, rfl, rfl, rfl, rfl⟩ (fun _ => rfl) ⟨h.ok.mem, h.ok.agr, h.ok.rc, h.ok.told, h.ok.tv⟩, hK⟩
set_option maxHeartbeats 1600000 in
set_option maxRecDepth 100000 in
theorem formedA {F : Nat → Prop} (s : Fw) (b : Nat) (w : World) (h : FAt F w b s) :
    Calls Tryd.prog 17 #[.pointer (some ⟨b, 0, none⟩)] w fun e w' => e = .returned (.bool s.formed) ∧ w = w' := by
  obtain ⟨c7, c8, c9, c10, c11, c12⟩ := h.cells
  go_enter Tryd.func17, Tryd.ntmps17
  go_wp2
  go_ret
  exact ⟨rfl, rfl⟩
set_option maxHeartbeats 1600000 in
set_option maxRecDepth 100000 in
theorem recordA {F : Nat → Prop} (s : Fw) (b : Nat) (w : World) (h : FAt F w b s) :
    Calls Tryd.prog 16 #[.pointer (some ⟨b, 0, none⟩)] w fun e w' => ∃ a c, e = .returned (.agg #[.int .u64 s.rc.last.num, .int .u64 s.rc.last.ce, .int .i64 s.rc.last.cr, .int .u64 s.rc.last.mem, .slice a s.rn c]) ∧ RdV w' a s.rn c s.rc.pend ∧ (∀ g off, a = some ⟨g, off, none⟩ → w.heap.size ≤ g) ∧ Below w.heap.size w w' := by
  have hb1 := alloc_below w (.cells #[.int .u64 0, .int .u64 0, .int .i64 0, .int .u64 0, .slice none 0 0] 38)
  have h1 := h.below hb1
  have hC := BlkAt.new w 38 #[.int .u64 0, .int .u64 0, .int .i64 0, .int .u64 0, .slice none 0 0]
  have hln := h.len
  have hok := h.ok.rc.2
  go_enter Tryd.func16, Tryd.ntmps16
  go_wp2_with (first
    | (refine wpList_blk_alloc rfl rfl Tryd.recZ w.heap.size rfl ?_)
    | (refine wpList_blk_get (cs := #[.int .u64 s.rc.last.num, .int .u64 s.rc.last.ce, .int .i64 s.rc.last.cr, .int .u64 s.rc.last.mem, .slice s.ra s.rn s.rk]) rfl (.tmp 5) rfl rfl h1.blk Tryd.underlying38 rfl Tryd.recI (fwA_rec s) ?_))
  refine (own_any s.rc.last s.ra s.rn s.rk s.rc.pend (by omega) _ h1.rd.1).mono ?_
  rintro e w2 ⟨a, c, rfl, hr2, hb2, hge⟩
  have hC2 := hC.below hb2 hC.lt
  go_wp2_with (first
    | (refine wpList_blk_store rfl (.tmp 2) (.tmp 7) rfl rfl rfl hC2 Tryd.recI rfl (by simp [Value.oneCell']) ?_; intro w6 hC6 hK6 hsz6))
  refine bodyPost_ret (results_cell_row rfl _ _ w.heap.size 38 _ (0, 0) _ rfl hC6 Tryd.underlying38 rfl Tryd.recI) rfl ⟨a, c, rfl, ?_, fun g off e => Nat.le_trans hb1.size (hge g off e), ?_⟩
  · exact hK6.rd hr2 (fun g off e => by have := hge g off e; simp at this; omega)
  · have := belS hb1 hb2
    exact Kp.below this hK6 (Nat.le_refl _) this.size
end Go.Proofs.YteeeikkapnchlaaDoor
