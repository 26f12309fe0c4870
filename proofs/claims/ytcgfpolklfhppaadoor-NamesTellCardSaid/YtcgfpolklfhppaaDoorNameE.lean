/- walks of Of, and of the reference's Of -/
import Derived.Test.YtcgfpolklfhppaaDoorNameD
namespace Go.Proofs.YtcgfpolklfhppaaDoor
open Go.RowKit Go.Sort

def RdM (w : World) (a : Option Addr) (n c : Nat) (l : List Nm) : Prop := Rd w 2 a n c (l.flatMap nmF)
theorem RdM.len {w : World} {a : Option Addr} {n c : Nat} {l : List Nm} (h : RdM w a n c l) : l.length = n := by
  have := Rd.length_eq h
  rw [flatMap_len (f := nmF) (sz := 2) (fun _ => rfl)] at this
  omega
theorem RdM.at {w : World} {b off n c : Nat} {l : List Nm} (h : RdM w (some ⟨b, off, none⟩) n c l) (k : Nat) (hk : k < l.length) :
    w.cell? ⟨b, off + k * 2, none⟩ = some (.int .i64 l[k].proc) ∧ w.cell? ⟨b, off + k * 2 + 1, none⟩ = some (.int .u32 l[k].inc) := by
  have hj : ∀ j v, (nmF l[k])[j]? = some v → j < 2 → w.cell? ⟨b, off + k * 2 + j, none⟩ = some v := fun j v hv h8 => by
    have h0 := flatMap_get (f := nmF) (sz := 2) (fun _ => rfl) l k j h8
    rw [List.getElem?_eq_getElem hk] at h0
    rw [Nat.add_assoc]; exact Rd.at h (h0.trans hv)
  exact ⟨hj 0 _ rfl (by decide), hj 1 _ rfl (by decide)⟩
def nmQ (p : Int) (x : Nm) : Bool := x.proc == p
def idxM (l : List Nm) (p : Int) : Int := match l.findIdx? (nmQ p) with | some i => i | none => -1
def ofM (l : List Nm) (p : Int) : Nm × Bool := match l.findIdx? (nmQ p) with | some i => (l[i]?.getD ⟨0, 0⟩, true) | none => (⟨0, 0⟩, false)
theorem findIdx?_at {α : Type} {q : α → Bool} {l : List α} {k : Nat} (hk : k < l.length) (h : ∀ i (hi : i < k), q (l[i]'(by omega)) = false) (h1 : q l[k] = true) : l.findIdx? q = some k :=
  List.findIdx?_eq_some_iff_getElem.2 ⟨hk, h1, fun j hj => by simpa using h j hj⟩
theorem findIdx?_no {α : Type} {q : α → Bool} {l : List α} (h : ∀ i (hi : i < l.length), q l[i] = false) : l.findIdx? q = none :=
  List.findIdx?_eq_none_iff.2 fun x hx => by obtain ⟨i, hi, rfl⟩ := List.mem_iff_getElem.1 hx; exact h i hi
theorem of1_any (x : Nm) (p : Int) (cb : Nat) (w : World) (h : BlkAt w cb 3 #[.int .i64 p]) :
    Calls Tryd.prog 24 #[.agg #[.int .i64 x.proc, .int .u32 x.inc], .pointer (some ⟨cb, 0, none⟩)] w fun e w' => e = .returned (.bool (nmQ p x)) ∧ Below w.heap.size w w' := by
  have hb1 : Below w.heap.size w (w.alloc (.cells #[.int .i64 x.proc, .int .u32 x.inc] 30)) := (Below.refl _ _).alloc (Nat.le_refl _) _
  have c0 : (w.alloc (.cells #[.int .i64 x.proc, .int .u32 x.inc] 30)).cell? ⟨cb, 0, none⟩ = some (.int .i64 p) := (h.below hb1 h.lt).cell rfl
  go_enter Tryd.func24, Tryd.ntmps24
  go_wp2
  go_ret
  exact ⟨rfl, hb1⟩
set_option maxHeartbeats 800000 in
set_option maxRecDepth 100000 in
theorem indexM_any (p : Int) (cb : Nat) (a : Option Addr) (n c : Nat) (l : List Nm) (w : World) (hr : RdM w a n c l) (hB : BlkAt w cb 3 #[.int .i64 p]) :
    Calls Tryd.prog 23 #[.slice a n c, .func (Fn.func 24) #[] #[.pointer (some ⟨cb, 0, none⟩)]] w fun e w' => e = .returned (.int .i64 (idxM l p)) ∧ Below w.heap.size w w' := by
  have hmx := Rd.le_max hr
  unfold maxLen at hmx
  have hl := Lib.hid hr.len
  go_enter Tryd.func23, Tryd.ntmps23
  go_wp2
  go_loopw [5, 8] (fun _ i wr => ∃ k : Nat, k ≤ n ∧ i = .int .i64 k ∧ Hid (∀ i (_ : i < k) (hi : i < l.length), nmQ p l[i] = false) ∧ Below w.heap.size w wr) (fun _ i _ => n - (intOf i).toNat)
  case atStart => exact ⟨0, Nat.zero_le _, rfl, (fun i h => by omega), Below.refl _ _⟩
  case round =>
    obtain ⟨k, hk, rfl, hno, hbr⟩ := hrel
    by_cases hlt : k < n
    · have hkl : k < l.length := by rw [hl.out]; exact hlt
      obtain ⟨bs, off, rfl, _⟩ := Rd.addr hr (by omega)
      obtain ⟨c0, c1⟩ := RdM.at (Rd.below hr hbr (Nat.le_refl _)) k hkl
      have hBr := hB.below hbr hB.lt
      have HD := Lib.hid (fun W h => of1_any l[k] p cb W h)
      have hkI : (k : Int) < n := by omega
      cases he : nmQ p l[k] with
      | true =>
        have HF := Lib.hid (show idxM l p = k from by unfold idxM; rw [findIdx?_at hkl (fun i hi => hno.out i hi (by omega)) he])
        rw [he] at HD
        generalize l[k] = u at *
        clear he
        go_wp2_with fail
        refine (HD.out _ hBr).mono ?_
        rintro e w' ⟨rfl, hbb⟩
        go_wp2
        go_ret
        exact ⟨ret_int (by rw [HF.out]), belS hbr hbb⟩
      | false =>
        have HN : Hid (∀ i (_ : i < k + 1) (hi : i < l.length), nmQ p l[i] = false) := fun i hi h => by
          by_cases e : i = k
          · subst e; exact he
          · exact hno.out i (by omega) h
        rw [he] at HD
        generalize l[k] = u at *
        clear he
        go_wp2_with fail
        refine (HD.out _ hBr).mono ?_
        rintro e w' ⟨rfl, hbb⟩
        go_wp2
        go_roundw
        case rel => exact ⟨k + 1, by omega, by go_num, HN, belS hbr hbb⟩
        case measure => simp [intOf]; omega
    · obtain rfl : k = n := by omega
      have HF := Lib.hid (show idxM l p = -1 from by unfold idxM; rw [findIdx?_no (fun i hi => hno.out i (by have := hl.out; omega) hi)])
      go_wp2
      go_ret
      exact ⟨ret_int (by rw [HF.out]), hbr⟩
end Go.Proofs.YtcgfpolklfhppaaDoor
