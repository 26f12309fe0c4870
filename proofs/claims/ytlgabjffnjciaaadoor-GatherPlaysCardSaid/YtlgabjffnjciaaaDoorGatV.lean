/- gather, plain: what comes once -/
import Derived.Test.YtlgabjffnjciaaaDoorGatU
namespace Go.Proofs.YtlgabjffnjciaaaDoor
set_option linter.unusedSimpArgs false
set_option linter.unusedVariables false
open Go.RowKit
/-- What GatherOnce keeps: the numbers of calls that told, and that ended, a list. -/
structure OnceI (v : AtV) (told done : Nat) : Prop where
  t1 : told ≤ 1
  t0 : toldV v = false → told = 0
  d1 : done ≤ 1
  d0 : doneV v = false → done = 0
section
variable {v : AtV} {told done : Nat}
theorem OnceI.start (v : AtV) : OnceI v 0 0 := ⟨by decide, fun _ => rfl, by decide, fun _ => rfl⟩
theorem with_in {x : Nat} {p : Int} (h : hasB x p = true) : withN x [p] = x := by
  obtain ⟨⟨h0, h1⟩, h2⟩ := hasB_in.1 h
  show x ||| bitN p = x
  refine Nat.eq_of_testBit_eq (fun i => ?_)
  rw [Nat.testBit_or, bitN_bit]
  by_cases hi : p = (i : Int)
  · have : i = p.toNat := by omega
    subst this
    rw [h2]; rfl
  · simp [hi]
theorem rdyV_rdy (v : AtV) (p : Int) : (rdyV v p).rdy = if (toldV v && hasB v.mem p) = true then withN v.rdy [p] else v.rdy := by
  unfold rdyV rdyC
  cases toldV v && hasB v.mem p with
  | false => rfl
  | true =>
    cases h : hasB v.rdy p with
    | true => rw [if_neg (by simp), if_pos rfl, with_in h]
    | false => rw [if_pos (by simp), if_pos rfl]
theorem done_rdyC (h : doneV v = true) (p : Int) : rdyC v p = false := by
  unfold doneV at h
  rw [Bool.and_eq_true, decide_eq_true_eq] at h
  unfold rdyC
  rw [h.2]
  cases toldV v <;> cases hasB v.mem p <;> rfl
theorem OnceI.rdy (h : OnceI v told done) (p : Int) : OnceI (rdyV v p) told (if (rdyC v p && doneV (rdyV v p)) = true then done + 1 else done) := by
  have key : doneV v = true → rdyV v p = v := fun hd => by unfold rdyV; rw [if_neg (by rw [done_rdyC hd]; decide)]
  refine ⟨h.t1, fun e => h.t0 (by rw [← told_rdy v p]; exact e), ?_, fun e => ?_⟩
  · split
    · rename_i hc
      rw [Bool.and_eq_true] at hc
      have : doneV v = false := by
        cases hd : doneV v with
        | false => rfl
        | true => rw [done_rdyC hd] at hc; exact absurd hc.1 (by decide)
      have := h.d0 this
      omega
    · exact h.d1
  · rw [if_neg (by rw [e]; simp)]
    refine h.d0 ?_
    cases hd : doneV v with
    | false => rfl
    | true => rw [key hd] at e; rw [e] at hd; cases hd
theorem VInv.told_addC (hV : VInv v) (h : toldV v = true) (p : Int) : addC v p = false := by
  unfold addC
  cases hm : hasB v.mem p with
  | false => simp
  | true => rw [hV.told_there h hm]; rfl
theorem OnceI.add (hV : VInv v) (h : OnceI v told done) (x : Xv) : OnceI (addV v x) (if (addC v x.who && toldV (addV v x)) = true then told + 1 else told) done := by
  refine ⟨?_, fun e => ?_, h.d1, fun e => h.d0 ?_⟩
  · split
    · rename_i hc
      rw [Bool.and_eq_true] at hc
      have : toldV v = false := by
        cases hd : toldV v with
        | false => rfl
        | true => rw [hV.told_addC hd] at hc; exact absurd hc.1 (by decide)
      have := h.t0 this
      omega
    · exact h.t1
  · rw [if_neg (by rw [e]; simp)]
    refine h.t0 ?_
    cases hd : toldV v with
    | false => rfl
    | true => rw [hV.told_add hd, hd] at e; cases e
  · cases hd : doneV v with
    | false => rfl
    | true =>
      have ht : toldV v = true := by unfold doneV at hd; rw [Bool.and_eq_true] at hd; exact hd.1
      rw [hV.told_add ht, hd] at e
      cases e
theorem nodup_eq {α β : Type} (f : α → β) {l : List α} (h : (l.map f).Nodup) {x y : α} (hx : x ∈ l) (hy : y ∈ l) (e : f x = f y) : x = y := by
  induction l with
  | nil => cases hx
  | cons a l ih =>
    rw [List.map_cons, List.nodup_cons] at h
    rcases List.mem_cons.1 hx with rfl | hx'
    · rcases List.mem_cons.1 hy with rfl | hy'
      · rfl
      · exact absurd (List.mem_map.2 ⟨y, hy', e.symm⟩) h.1
    · rcases List.mem_cons.1 hy with rfl | hy'
      · exact absurd (List.mem_map.2 ⟨x, hx', e⟩) h.1
      · exact ih h.2 hx' hy'
theorem find_who {l : List Xv} {p : Int} {x : Xv} (h : (l.find? fun x => decide (x.who = p)) = some x) : x ∈ l ∧ x.who = p := ⟨List.mem_of_find?_eq_some h, (by have h2 := List.find?_some h; simpa using h2)⟩
theorem exsV_in {x : Xv} (h : x ∈ exsV v) : x ∈ v.xs := by
  obtain ⟨p, _, hp⟩ := List.mem_filterMap.1 h
  exact (find_who hp).1
theorem memI_sorted' (x : Nat) : (memI x).Pairwise (· < ·) := by
  rw [memI, List.pairwise_map]
  exact (show (memN x).Pairwise (· < ·) from List.Pairwise.filter _ List.pairwise_lt_range).imp fun h => by omega
theorem exsV_sorted (v : AtV) : (exsV v).Pairwise (fun a b => a.who < b.who) := by
  unfold exsV
  rw [List.pairwise_filterMap]
  refine (memI_sorted' v.mem).imp fun {p q} h a ha b hb => ?_
  rw [(find_who ha).2, (find_who hb).2]
  exact h
theorem exsV_has (hV : VInv v) {x : Xv} (h : x ∈ v.xs) : x ∈ exsV v := by
  obtain ⟨⟨h0, h1⟩, h2⟩ := hasB_in.1 (hV.who x h)
  refine List.mem_filterMap.2 ⟨x.who, ?_, ?_⟩
  · refine List.mem_map.2 ⟨x.who.toNat, ?_, by omega⟩
    refine List.mem_filter.2 ⟨List.mem_range.2 (by omega), h2⟩
  · cases hf : v.xs.find? fun y => decide (y.who = x.who) with
    | none => exact absurd (List.find?_eq_none.1 hf x h) (by simp)
    | some y =>
      obtain ⟨hy, hw⟩ := find_who hf
      rw [nodup_eq (·.who) hV.nd hy h hw]
theorem exsV_len (hV : VInv v) : (exsV v).length = v.xs.length := by
  have hn1 : (exsV v).Nodup := (exsV_sorted v).imp fun {a b} h e => by subst e; omega
  have hn2 : v.xs.Nodup := by
    have := hV.nd
    exact List.Pairwise.of_map (·.who) (fun a b h e => h (by rw [e])) this
  exact ((List.perm_ext_iff_of_nodup hn1 hn2).2 fun x => ⟨exsV_in, exsV_has hV⟩).length_eq
end
end Go.Proofs.YtlgabjffnjciaaaDoor
