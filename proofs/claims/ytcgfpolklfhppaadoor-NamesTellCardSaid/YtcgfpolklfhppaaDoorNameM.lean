/- names: names hang on four fields alone; two equal rows of names; the walk of NamesOne -/
import Derived.Test.YtcgfpolklfhppaaDoorNameI
import Derived.StillTailTactics
namespace Go.Proofs.YtcgfpolklfhppaaDoor
open Go.RowKit Go.Sort

/-- What of the claim of a place counts. -/
def foI (l : List It) (k : Nat) : Option (Nat × Nat × Bool × Bool) := l[k]?.map fun x => (x.inc, x.holds, x.has, x.direct)
theorem foI_q {l l' : List It} {k : Nat} (h : foI l k = foI l' k) (q : It → Bool) (g : Nat × Nat × Bool × Bool → Bool) (hq : ∀ x, q x = g (x.inc, x.holds, x.has, x.direct)) : l[k]?.map q = l'[k]?.map q := by
  have e : ∀ L : List It, L[k]?.map q = (foI L k).map g := fun L => by
    unfold foI
    rw [Option.map_map]
    congr 1
    funext x
    exact hq x
  rw [e, e, h]
theorem foI_inc {l l' : List It} {k : Nat} (h : foI l k = foI l' k) : inc0 l k = inc0 l' k := by
  have e : ∀ L : List It, L[k]?.map (·.inc) = (foI L k).map (·.1) := fun L => by unfold foI; rw [Option.map_map]; rfl
  unfold inc0
  rw [e, e, h]
theorem thoseK_congr {m : Nat} {l l' : List It} {q : It → Bool} {K : Nat} (h : ∀ k, k < K → l[k]?.map q = l'[k]?.map q) : thoseK m l q K = thoseK m l' q K := by
  induction K with
  | zero => rfl
  | succ K ih => rw [thoseK, thoseK, ih (fun k hk => h k (by omega)), h K (by omega)]
theorem stayN_congr {n m : Nat} {l l' : List It} (h : ∀ k, k < (memN m).length → foI l k = foI l' k) : stayN n m l = stayN n m l' := by
  have h1 : thoseN m l (dirQ n) = thoseN m l' (dirQ n) := thoseK_congr fun k hk => foI_q (h k hk) _ (fun x => (x.2.2.1 && decide (x.2.1 = n)) && x.2.2.2) (fun _ => rfl)
  have h2 : thoseN m l (It.hold n) = thoseN m l' (It.hold n) := thoseK_congr fun k hk => foI_q (h k hk) _ (fun x => (x.2.2.1 && decide (x.2.1 = n))) (fun _ => rfl)
  unfold stayN
  rw [h1, h2]
theorem nameK_congr {m st : Nat} {l l' : List It} {sure : Bool} {K : Nat} (h : ∀ k, k < K → foI l k = foI l' k) : nameK m st l sure K = nameK m st l' sure K := by
  induction K with
  | zero => rfl
  | succ K ih => rw [nameK, nameK, ih (fun k hk => h k (by omega)), foI_inc (h K (by omega))]
theorem namesN_congr {n m : Nat} {l l' : List It} {sure : Bool} (h : ∀ k, k < (memN m).length → foI l k = foI l' k) : namesN n m l sure = namesN n m l' sure := by
  unfold namesN
  rw [stayN_congr h, nameK_congr h]
def bareC (x : It) : List Value := [.int .i64 0, .string ⟨#[]⟩, .int .u32 x.inc, .int .u64 x.holds, .bool x.has, .bool x.direct, .int .u64 0, .int .u64 0, .int .i64 0, .int .u64 0, .slice none 0 0, .int .u64 0, .int .u64 0, .int .i64 0, .int .u64 0, .int .u64 0, .int .i64 0, .int .i64 0]
def bareIt (x : It) : It := ⟨bareC x, x.inc, x.holds, x.has, x.direct⟩
theorem bareIt_wf {x : It} (h : x.Wf) : (bareIt x).Wf := ⟨rfl, rfl, rfl, rfl, rfl, h.i32, h.h64, one18 rfl⟩
theorem foI_bare (l : List It) (k : Nat) : foI (l.map bareIt) k = foI l k := by
  unfold foI
  rw [List.getElem?_map, Option.map_map]
  rfl
theorem foI_app (l l' : List It) {k : Nat} (h : k < l.length) : foI (l ++ l') k = foI l k := by
  unfold foI
  rw [List.getElem?_append_left h]
theorem take_snocI {l : List It} {k : Nat} (h : k < l.length) : ((l.take (k + 1)).map bareIt).flatMap (·.cs) = ((l.take k).map bareIt).flatMap (·.cs) ++ bareC l[k] := by
  rw [List.take_succ_eq_append_getElem h, List.map_append, List.flatMap_append]
  simp [bareIt]
theorem Tryd.itE : Elt Tryd.prog 23 48 (.agg zIt.cs.toArray) 18 160 := ⟨by kernel_rfl, by kernel_rfl, rfl, by decide⟩

set_option maxHeartbeats 800000 in
set_option maxRecDepth 100000 in
theorem rnames_eq (L : List Nm) (a : Option Addr) (n c : Nat) (a' : Option Addr) (c' : Nat) (w : World) (h : RdM w a n c L) (h' : RdM w a' n c' L) :
    Calls Tryd.prog 13 #[.slice a n c, .slice a' n c'] w fun e w' => e = .returned (.bool true) ∧ Below w.heap.size w w' := by
  have hln := h.len
  have hmx := Rd.le_max h
  unfold maxLen at hmx
  go_enter Tryd.func13, Tryd.ntmps13
  go_wp2
  go_loopw [5] (fun i wr => ∃ k : Nat, k ≤ n ∧ i = .int .i64 k ∧ Below w.heap.size w wr) (fun i _ => n - (intOf i).toNat)
  case atStart => exact ⟨0, Nat.zero_le _, rfl, Below.refl _ _⟩
  case round =>
    obtain ⟨k, hk, rfl, hbr⟩ := hrel
    by_cases hlt : k < n
    · have hkl : k < L.length := by omega
      have hkI : (k : Int) < n := by omega
      have hA : RdM wr a n c L := Rd.below h hbr (Nat.le_refl _)
      have hB : RdM wr a' n c' L := Rd.below h' hbr (Nat.le_refl _)
      obtain ⟨b1, o1, rfl, _⟩ := Rd.addr hA (by omega)
      obtain ⟨b2, o2, rfl, _⟩ := Rd.addr hB (by omega)
      obtain ⟨c0, c1⟩ := RdM.at hA k hkl
      obtain ⟨d0, d1⟩ := RdM.at hB k hkl
      generalize L[k] = u at *
      clear hA hB
      go_wp2
      go_quiet (fail)
      go_wp2
      go_roundw
      case rel => exact ⟨k + 1, by omega, by go_num, belN hbr _⟩
      case measure => simp [intOf]; omega
    · obtain rfl : k = n := by omega
      go_wp2
      go_ret
      exact ⟨rfl, hbr⟩
end Go.Proofs.YtcgfpolklfhppaaDoor
