/- the walks of once: a call of a reader that may give up -/
import Derived.Test.YtlafjdjefepfgaaNumR
import Derived.Defers
import Derived.Recover
namespace Go.Proofs.Ytlafjdjefepfgaa
open Go.RowKit

theorem ta_short (w : World) : (Instr.typeAssert (.iface 52 (.int .i64 2)) 20 52 true).run Try.prog w = .ok (.tuple #[.int .i64 2, .bool true]) w := by kernel_rfl
theorem ta_nil (w : World) : (Instr.typeAssert .nilIface 20 52 true).run Try.prog w = .ok (.tuple #[.int .i64 0, .bool false]) w := by kernel_rfl
/-- The three named results' cells. -/
structure Res3 (w : World) (b : Nat) (x y z : Value) : Prop where
  c0 : w.cell? ⟨b, 0, none⟩ = some x
  c1 : w.cell? ⟨b + 1, 0, none⟩ = some y
  c2 : w.cell? ⟨b + 1 + 1, 0, none⟩ = some z
  f0 : w.frozen? ⟨b, 0, none⟩ = false
  f1 : w.frozen? ⟨b + 1, 0, none⟩ = false
  f2 : w.frozen? ⟨b + 1 + 1, 0, none⟩ = false
theorem Res3.set {w : World} {b : Nat} {x y z : Value} (h : Res3 w b x y z) (x' y' z' : Value) : Res3 (((w.setCell ⟨b, 0, none⟩ x').setCell ⟨b + 1, 0, none⟩ y').setCell ⟨b + 1 + 1, 0, none⟩ z') b x' y' z' := by
  refine ⟨?_, ?_, ?_, ?_, ?_, ?_⟩
  · rw [World.cell?_setCell_other _ _ _ _ (by simp), World.cell?_setCell_other _ _ _ _ (by simp), World.cell?_setCell_same _ _ _ h.c0]
  · rw [World.cell?_setCell_other _ _ _ _ (by simp), World.cell?_setCell_same _ _ _ ((World.cell?_setCell_other _ _ _ _ (by simp)).trans h.c1)]
  · rw [World.cell?_setCell_same _ _ _ ((World.cell?_setCell_other _ _ _ _ (by simp)).trans ((World.cell?_setCell_other _ _ _ _ (by simp)).trans h.c2))]
  · rw [World.frozen?_setCell, World.frozen?_setCell, World.frozen?_setCell]; exact h.f0
  · rw [World.frozen?_setCell, World.frozen?_setCell, World.frozen?_setCell]; exact h.f1
  · rw [World.frozen?_setCell, World.frozen?_setCell, World.frozen?_setCell]; exact h.f2
theorem Res3.keep {w w' : World} {b r : Nat} {x y z : Value} (h : Res3 w b x y z) (k : Keep r w w') (hr : r < b) (hb : b + 1 + 1 < w.heap.size) : Res3 w' b x y z := by
  have hc : ∀ p : Nat, b ≤ p → p < w.heap.size → w'.heap[p]? = w.heap[p]? := fun p h1 h2 => k.block p h2 (by omega)
  refine ⟨?_, ?_, ?_, ?_, ?_, ?_⟩
  · exact (World.cell?_of_block (a := ⟨b, 0, none⟩) (hc _ (by simp <;> omega) (by simp <;> omega))).trans h.c0
  · exact (World.cell?_of_block (a := ⟨b + 1, 0, none⟩) (hc _ (by simp <;> omega) (by simp <;> omega))).trans h.c1
  · exact (World.cell?_of_block (a := ⟨b + 1 + 1, 0, none⟩) (hc _ (by simp <;> omega) (by simp <;> omega))).trans h.c2
  · exact (World.frozen?_of_block (a := ⟨b, 0, none⟩) (hc _ (by simp <;> omega) (by simp <;> omega))).trans h.f0
  · exact (World.frozen?_of_block (a := ⟨b + 1, 0, none⟩) (hc _ (by simp <;> omega) (by simp <;> omega))).trans h.f1
  · exact (World.frozen?_of_block (a := ⟨b + 1 + 1, 0, none⟩) (hc _ (by simp <;> omega) (by simp <;> omega))).trans h.f2

set_option maxHeartbeats 1000000 in
theorem catch_short (b : Nat) (x y z : Value) (older : List PanicEntry) (w : World) (h : Res3 w b x y z) :
    CallsD Try.prog 25 #[.pointer (some ⟨b, 0, none⟩), .pointer (some ⟨b + 1, 0, none⟩), .pointer (some ⟨b + 1 + 1, 0, none⟩)] (.panicking ({ v := .iface 52 (.int .i64 2), recovered := false } :: older)) w fun e u' w' =>
      e = .returned (.tuple #[]) ∧ u' = .panicking ({ v := .iface 52 (.int .i64 2), recovered := true } :: older) ∧ w' = ((w.setCell ⟨b, 0, none⟩ (.int .u64 0)).setCell ⟨b + 1, 0, none⟩ (.string ⟨#[]⟩)).setCell ⟨b + 1 + 1, 0, none⟩ (.bool false) := by
  obtain ⟨hp, hq, hr, hp', hq', hr'⟩ := h
  have hq2 : (w.setCell ⟨b, 0, none⟩ (.int .u64 0)).cell? ⟨b + 1, 0, none⟩ = some y := (World.cell?_setCell_other _ _ _ _ (by simp)).trans hq
  have hr2 : ((w.setCell ⟨b, 0, none⟩ (.int .u64 0)).setCell ⟨b + 1, 0, none⟩ (.string ⟨#[]⟩)).cell? ⟨b + 1 + 1, 0, none⟩ = some z := (World.cell?_setCell_other _ _ _ _ (by simp)).trans ((World.cell?_setCell_other _ _ _ _ (by simp)).trans hr)
  refine callsD_of_wpS Try.func25 rfl fun c₀ cs hu => ?_
  apply wpS_seq
  apply wpS_region
  simp [wpOpsS, go_sem, recoverD, hu, Try.ntmps25, Exit.thenS, ta_short, Array.replicate, List.replicate]
  refine wpS_of_wp ?_
  go_wp2
  cases c₀
  simp_all [bodyPostS, results, Try.results25]

set_option maxHeartbeats 1000000 in
theorem catch_idle (p q r : Addr) (w : World) :
    CallsD Try.prog 25 #[.pointer (some p), .pointer (some q), .pointer (some r)] .returning w fun e u' w' => e = .returned (.tuple #[]) ∧ u' = .returning ∧ w' = w := by
  refine callsD_of_wpS Try.func25 rfl fun c₀ cs hu => ?_
  apply wpS_seq
  apply wpS_region
  simp [wpOpsS, go_sem, recoverD, hu, Try.ntmps25, Exit.thenS, ta_nil, Array.replicate, List.replicate]
  refine wpS_of_wp ?_
  go_wp2
  cases c₀
  simp_all [bodyPostS, results, Try.results25]

theorem res3_new (w : World) (o : Obj) (x y z : Value) (t1 t2 t3 : TypeId) : Res3 ((((w.alloc o).alloc (.cells #[x] t1)).alloc (.cells #[y] t2)).alloc (.cells #[z] t3)) (w.heap.size + 1) x y z := by
  refine ⟨?_, ?_, ?_, ?_, ?_, ?_⟩
  · rw [World.cell?_alloc_past _ _ _ (by simp), World.cell?_alloc_past _ _ _ (by simp), World.cell?_alloc_at _ _ _ _ (by simp)]; rfl
  · rw [World.cell?_alloc_past _ _ _ (by simp), World.cell?_alloc_at _ _ _ _ (by simp)]; rfl
  · rw [World.cell?_alloc_at _ _ _ _ (by simp)]; rfl
  · rw [World.frozen?_alloc_past _ _ _ (by simp), World.frozen?_alloc_past _ _ _ (by simp)]; exact World.frozen?_alloc_at _ _ _ _ (by simp)
  · rw [World.frozen?_alloc_past _ _ _ (by simp)]; exact World.frozen?_alloc_at _ _ _ _ (by simp)
  · exact World.frozen?_alloc_at _ _ _ _ (by simp)
/-- What a call of once leaves. -/
def OncePost (b : Nat) (s : ByteArray) (w : World) (v : Int) (t : ByteArray) (ok : Bool) (at' : Nat) (e : Ending) (w' : World) : Prop :=
  e = .returned (.tuple #[.int .u64 v, .string t, .bool ok]) ∧ Rdr w' b s at' ∧ Keep b w w'

theorem Rdr.alloc {w : World} {b at_ : Nat} {s : ByteArray} (h : Rdr w b s at_) (o : Obj) : Rdr (w.alloc o) b s at_ := h.below ((Below.refl w.heap.size w).alloc (Nat.le_refl _) o) h.lt
theorem Keep.alloc {b : Nat} {x y : World} (h : Keep b x y) (o : Obj) : Keep b x (y.alloc o) := h.trans (Keep.ofBelow ((Below.refl y.heap.size y).alloc (Nat.le_refl _) o))
theorem Keep.setNew {b : Nat} {x y : World} (h : Keep b x y) (a : Addr) (ha : x.heap.size ≤ a.block) (u : Value) : Keep b x (y.setCell a u) :=
  ⟨h.os, h.tape, h.output, by simpa [World.setCell] using h.size, fun k hk hb => by rw [Below.heap_setCell _ _ _ _ (by omega)]; exact h.block k hk hb⟩
theorem Rdr.setNew {w : World} {b at_ : Nat} {s : ByteArray} (h : Rdr w b s at_) (a : Addr) (ha : a.block ≠ b) (u : Value) : Rdr (w.setCell a u) b s at_ := by
  have e : (w.setCell a u).heap[b]? = w.heap[b]? := Below.heap_setCell _ _ _ _ (by omega)
  exact ⟨by simpa [World.setCell] using h.lt, (World.cell?_of_block (a := ⟨b, 0, none⟩) e).trans h.c0, (World.cell?_of_block (a := ⟨b, 1, none⟩) e).trans h.c1, (World.frozen?_of_block (a := ⟨b, 1, none⟩) e).trans h.fz, h.le⟩

theorem Rdr.drewN {w : World} {b at_ : Nat} {s : ByteArray} (h : Rdr w b s at_) (n : Nat) : Rdr (w.drewN n) b s at_ := ⟨h.lt, h.c0, h.c1, h.fz, h.le⟩
theorem Res3.drewN {w : World} {b : Nat} {x y z : Value} (h : Res3 w b x y z) (n : Nat) : Res3 (w.drewN n) b x y z := ⟨h.c0, h.c1, h.c2, h.f0, h.f1, h.f2⟩
set_option maxHeartbeats 1000000 in
theorem once_text_yes (b : Nat) (s : ByteArray) (at_ : Nat) (n : Int) (w : World) (h : Rdr w b s at_) (hz : s.size ≤ 1000000000) (hn : n ≤ s.size - at_) :
    Calls Try.prog 16 #[.pointer (some ⟨b, 0, none⟩), .agg #[.bool true, .int .i64 n]] w (OncePost b s w 0 (s.extract at_ (at_ + n.toNat)) true (at_ + n.toNat)) := by
  have hmf : ∀ (fn : Fn) (first cap : Array Value) (w : World), (Instr.makeFunc fn first cap).run Try.prog w = .ok (.func fn first cap) w := fun _ _ _ _ => rfl
  have hlt := h.lt
  go_enter_defers Try.func16, Try.ntmps16
  go_wp2_with fail
  refine (text_yes b s at_ n _ ((((h.alloc _).alloc _).alloc _).alloc _) hz hn).mono ?_
  rintro e w5 ⟨rfl, h5, k5⟩
  have r3 : Res3 w5 (w.heap.size + 1) (.int .u64 0) (.string ⟨#[]⟩) (.bool false) := by
    exact Res3.keep (res3_new w _ _ _ _ _ _ _) k5 (by omega) (by simp)
  have k6 : Keep b w w5 := ((((((Keep.refl b w).alloc _).alloc _).alloc _).alloc _)).trans k5
  have r4 := r3.set (.int .u64 0) (.string (s.extract at_ (at_ + n.toNat))) (.bool true)
  have hd := h5.lt
  obtain ⟨c0, c1, c2, f0, f1, f2⟩ := r3
  go_wp2
  refine leaves_cons (f := 25) (args := #[.pointer (some ⟨w.heap.size + 1, 0, none⟩), .pointer (some ⟨w.heap.size + 1 + 1, 0, none⟩), .pointer (some ⟨w.heap.size + 1 + 1 + 1, 0, none⟩)]) (by simp) (by simp [go_sem]) ?_
  refine (catch_idle _ _ _ _).mono ?_
  rintro e u' w'' ⟨rfl, rfl, rfl⟩
  obtain ⟨d0, d1, d2, _, _, _⟩ := r4
  simp [Leaves, settle, results, Try.results16, go_sem, d0, d1, d2]
  exact ⟨rfl, ((h5.setNew _ (by simp; omega) _).setNew _ (by simp; omega) _).setNew _ (by simp; omega) _, ((k6.setNew _ (by simp) _).setNew _ (by simp; omega) _).setNew _ (by simp; omega) _⟩
set_option maxHeartbeats 1000000 in
theorem once_num_yes (b : Nat) (s : ByteArray) (at_ : Nat) (n : Int) (w : World) (h : Rdr w b s at_) (hz : s.size ≤ 1000000000) (hn : at_ + szB n ≤ s.size) :
    Calls Try.prog 16 #[.pointer (some ⟨b, 0, none⟩), .agg #[.bool false, .int .i64 n]] w (OncePost b s w (valI (bI (s.extract at_ (at_ + szB n)))) ⟨#[]⟩ true (at_ + szB n)) := by
  have hmf : ∀ (fn : Fn) (first cap : Array Value) (w : World), (Instr.makeFunc fn first cap).run Try.prog w = .ok (.func fn first cap) w := fun _ _ _ _ => rfl
  have hlt := h.lt
  go_enter_defers Try.func16, Try.ntmps16
  go_wp2_with fail
  refine (num_yes b s at_ n _ ((((h.alloc _).alloc _).alloc _).alloc _) hz hn).mono ?_
  rintro e w5 ⟨rfl, h5, k5⟩
  have r3 : Res3 w5 (w.heap.size + 1) (.int .u64 0) (.string ⟨#[]⟩) (.bool false) := by
    exact Res3.keep (res3_new w _ _ _ _ _ _ _) k5 (by omega) (by simp)
  have k6 : Keep b w w5 := ((((((Keep.refl b w).alloc _).alloc _).alloc _).alloc _)).trans k5
  have r4 := r3.set (.int .u64 (valI (bI (s.extract at_ (at_ + szB n))))) (.string ⟨#[]⟩) (.bool true)
  have hd := h5.lt
  obtain ⟨c0, c1, c2, f0, f1, f2⟩ := r3
  go_wp2
  refine leaves_cons (f := 25) (args := #[.pointer (some ⟨w.heap.size + 1, 0, none⟩), .pointer (some ⟨w.heap.size + 1 + 1, 0, none⟩), .pointer (some ⟨w.heap.size + 1 + 1 + 1, 0, none⟩)]) (by simp) (by simp [go_sem]) ?_
  refine (catch_idle _ _ _ _).mono ?_
  rintro e u' w'' ⟨rfl, rfl, rfl⟩
  obtain ⟨d0, d1, d2, _, _, _⟩ := r4
  simp [Leaves, settle, results, Try.results16, go_sem, d0, d1, d2]
  exact ⟨rfl, ((h5.setNew _ (by simp; omega) _).setNew _ (by simp; omega) _).setNew _ (by simp; omega) _, ((k6.setNew _ (by simp) _).setNew _ (by simp; omega) _).setNew _ (by simp; omega) _⟩
set_option maxHeartbeats 1000000 in
theorem once_text_no (b : Nat) (s : ByteArray) (at_ : Nat) (n : Int) (w : World) (h : Rdr w b s at_) (hz : s.size ≤ 1000000000) (hn : (s.size : Int) - at_ < n) :
    Calls Try.prog 16 #[.pointer (some ⟨b, 0, none⟩), .agg #[.bool true, .int .i64 n]] w (OncePost b s w 0 ⟨#[]⟩ false at_) := by
  have hmf : ∀ (fn : Fn) (first cap : Array Value) (w : World), (Instr.makeFunc fn first cap).run Try.prog w = .ok (.func fn first cap) w := fun _ _ _ _ => rfl
  have hlt := h.lt
  go_enter_defers Try.func16, Try.ntmps16
  go_wp2_with fail
  refine (text_no b s at_ n _ ((((h.alloc _).alloc _).alloc _).alloc _) hz hn).mono ?_
  rintro e w5 ⟨rfl, nq, rfl⟩
  have r3 := res3_new w (.cells #[.bool true, .int .i64 n] 39) (.int .u64 0) (.string ⟨#[]⟩) (.bool false) 23 9 4
  have h5 := (((h.alloc (.cells #[.bool true, .int .i64 n] 39)).alloc (.cells #[.int .u64 0] 23)).alloc (.cells #[.string ⟨#[]⟩] 9)).alloc (.cells #[.bool false] 4)
  have k6 := ((((Keep.refl b w).alloc (.cells #[.bool true, .int .i64 n] 39)).alloc (.cells #[.int .u64 0] 23)).alloc (.cells #[.string ⟨#[]⟩] 9)).alloc (.cells #[.bool false] 4)
  refine leaves_cons (f := 25) (args := #[.pointer (some ⟨w.heap.size + 1, 0, none⟩), .pointer (some ⟨w.heap.size + 1 + 1, 0, none⟩), .pointer (some ⟨w.heap.size + 1 + 1 + 1, 0, none⟩)]) (by simp) (by simp [go_sem]) ?_
  refine (catch_short _ _ _ _ [] _ (r3.drewN nq)).mono ?_
  rintro e u' w'' ⟨rfl, rfl, rfl⟩
  obtain ⟨d0, d1, d2, _, _, _⟩ := (r3.drewN nq).set (.int .u64 0) (.string ⟨#[]⟩) (.bool false)
  have h6 := h5.drewN nq
  have k7 := k6.drewN nq
  generalize (((((w.alloc (.cells #[.bool true, .int .i64 n] 39)).alloc (.cells #[.int .u64 0] 23)).alloc (.cells #[.string ⟨#[]⟩] 9)).alloc (.cells #[.bool false] 4))).drewN nq = W at *
  simp [Leaves, settle, results, Try.results16, go_sem, d0, d1, d2]
  exact ⟨rfl, ((h6.setNew _ (by simp; omega) _).setNew _ (by simp; omega) _).setNew _ (by simp; omega) _, ((k7.setNew _ (by simp) _).setNew _ (by simp; omega) _).setNew _ (by simp; omega) _⟩
set_option maxHeartbeats 1000000 in
theorem once_num_no (b : Nat) (s : ByteArray) (at_ : Nat) (n : Int) (w : World) (h : Rdr w b s at_) (hz : s.size ≤ 1000000000) (hn : s.size - at_ < szB n) :
    Calls Try.prog 16 #[.pointer (some ⟨b, 0, none⟩), .agg #[.bool false, .int .i64 n]] w (OncePost b s w 0 ⟨#[]⟩ false at_) := by
  have hmf : ∀ (fn : Fn) (first cap : Array Value) (w : World), (Instr.makeFunc fn first cap).run Try.prog w = .ok (.func fn first cap) w := fun _ _ _ _ => rfl
  have hlt := h.lt
  go_enter_defers Try.func16, Try.ntmps16
  go_wp2_with fail
  refine (num_no b s at_ n _ ((((h.alloc _).alloc _).alloc _).alloc _) hz hn).mono ?_
  rintro e w5 ⟨rfl, nq, rfl⟩
  have r3 := res3_new w (.cells #[.bool false, .int .i64 n] 39) (.int .u64 0) (.string ⟨#[]⟩) (.bool false) 23 9 4
  have h5 := (((h.alloc (.cells #[.bool false, .int .i64 n] 39)).alloc (.cells #[.int .u64 0] 23)).alloc (.cells #[.string ⟨#[]⟩] 9)).alloc (.cells #[.bool false] 4)
  have k6 := ((((Keep.refl b w).alloc (.cells #[.bool false, .int .i64 n] 39)).alloc (.cells #[.int .u64 0] 23)).alloc (.cells #[.string ⟨#[]⟩] 9)).alloc (.cells #[.bool false] 4)
  refine leaves_cons (f := 25) (args := #[.pointer (some ⟨w.heap.size + 1, 0, none⟩), .pointer (some ⟨w.heap.size + 1 + 1, 0, none⟩), .pointer (some ⟨w.heap.size + 1 + 1 + 1, 0, none⟩)]) (by simp) (by simp [go_sem]) ?_
  refine (catch_short _ _ _ _ [] _ (r3.drewN nq)).mono ?_
  rintro e u' w'' ⟨rfl, rfl, rfl⟩
  obtain ⟨d0, d1, d2, _, _, _⟩ := (r3.drewN nq).set (.int .u64 0) (.string ⟨#[]⟩) (.bool false)
  have h6 := h5.drewN nq
  have k7 := k6.drewN nq
  generalize (((((w.alloc (.cells #[.bool false, .int .i64 n] 39)).alloc (.cells #[.int .u64 0] 23)).alloc (.cells #[.string ⟨#[]⟩] 9)).alloc (.cells #[.bool false] 4))).drewN nq = W at *
  simp [Leaves, settle, results, Try.results16, go_sem, d0, d1, d2]
  exact ⟨rfl, ((h6.setNew _ (by simp; omega) _).setNew _ (by simp; omega) _).setNew _ (by simp; omega) _, ((k7.setNew _ (by simp) _).setNew _ (by simp; omega) _).setNew _ (by simp; omega) _⟩
end Go.Proofs.Ytlafjdjefepfgaa
