/- plan: the array of what is kept; fits -/
import Derived.Test.YtikhpafdnohhkaaDoorPlanH
import Derived.ScopeJumps
import Derived.WalkMore
namespace Go.Proofs.YtikhpafdnohhkaaDoor
set_option linter.unusedSimpArgs false
set_option linter.unusedVariables false
open Go.RowKit
def arrU (K : Nat → Nat) : Array Value := ((List.range 64).map fun i => Value.int .u32 (K i : Nat)).toArray
theorem arrU_size (K : Nat → Nat) : (arrU K).size = 64 := by simp [arrU]
theorem arrU_get (K : Nat → Nat) (i : Nat) (h : i < 64) : (arrU K)[i]? = some (.int .u32 (K i : Nat)) := by simp [arrU, h]
theorem arrU_set (K : Nat → Nat) (k v : Nat) (hk : k < 64) : (arrU K).setIfInBounds k (.int .u32 (v : Nat)) = arrU fun i => if i = k then v else K i := by
  apply Array.ext_getElem?
  intro i
  rw [Array.getElem?_setIfInBounds, arrU_size]
  by_cases hi : i < 64
  · rw [arrU_get (fun j => if j = k then v else K j) i hi]
    by_cases hik : k = i
    · subst hik; rw [if_pos rfl, if_pos hk, if_pos rfl]
    · rw [if_neg hik, arrU_get _ _ hi, if_neg (fun e => hik e.symm)]
  · rw [if_neg (by omega), Array.getElem?_eq_none (by rw [arrU_size]; omega), Array.getElem?_eq_none (by rw [arrU_size]; omega)]
theorem arrU_congr {K L : Nat → Nat} (h : ∀ i, i < 64 → K i = L i) : arrU K = arrU L := by
  rw [arrU, arrU, List.map_congr_left (fun i hi => by rw [h i (List.mem_range.1 hi)])]
theorem Tryd.arrZ : (Tryd.prog.info? 76).map (·.zero) = some (some (.agg (arrU fun _ => 0))) := by kernel_rfl
def KAt (w : World) (b : Nat) (K : Nat → Nat) : Prop := BlkAt w b 76 (arrU K)
section
variable {w w' : World} {b : Nat} {K : Nat → Nat}
theorem KAt.lt (h : KAt w b K) : b < w.heap.size := BlkAt.lt h
theorem KAt.below (h : KAt w b K) (hb : Below w.heap.size w w') : KAt w' b K := BlkAt.below h hb h.lt
theorem KAt.cell (h : KAt w b K) (i : Nat) (hi : i < 64) : w.cell? ⟨b, i, none⟩ = some (.int .u32 (K i : Nat)) := BlkAt.cell h (arrU_get K i hi)
theorem KAt.fz (h : KAt w b K) (i : Nat) : w.frozen? ⟨b, i, none⟩ = false := BlkAt.fz h i
theorem KAt.set (h : KAt w b K) (k v : Nat) (hk : k < 64) : KAt (w.setCell ⟨b, k, none⟩ (.int .u32 (v : Nat))) b fun i => if i = k then v else K i := by
  have := BlkAt.set h k (.int .u32 (v : Nat))
  rw [arrU_set K k v hk] at this
  exact this
theorem KAt.congr {L : Nat → Nat} (h : KAt w b K) (e : ∀ i, i < 64 → K i = L i) : KAt w b L := by
  unfold KAt at *
  rw [← arrU_congr e]; exact h
end
/-- Does one of the Deps fit? -/
def fitQ (K : Nat → Nat) (d : List Nat) (q : Nat) : Prop := if q < 64 then d.getD q 0 ≤ K q else d.getD q 0 = 0
theorem fit_all {K : Nat → Nat} {m : Ms} (h : ∀ q, q < m.deps.length → fitQ K m.deps q) : overM K m = false := by
  rw [Bool.eq_false_iff, Ne, overM_iff]
  rintro ⟨q, hq, hk⟩
  have := h q hq
  unfold fitQ at this
  by_cases h64 : q < 64
  · rw [if_pos h64] at this hk; omega
  · rw [if_neg h64] at this hk; omega
theorem fit_not {K : Nat → Nat} {m : Ms} {q : Nat} (hq : q < m.deps.length) (h : ¬ fitQ K m.deps q) : overM K m = true := by
  rw [overM_iff]
  refine ⟨q, hq, ?_⟩
  unfold fitQ at h
  by_cases h64 : q < 64
  · rw [if_pos h64] at h ⊢; omega
  · rw [if_neg h64] at h ⊢; omega
set_option maxHeartbeats 1600000 in
set_option maxRecDepth 100000 in
theorem fits_any (x : Mc) (kb : Nat) (K : Nat → Nat) (t : Bool) (ht : t = !overM K x.m) (w : World) (hK : KAt w kb K) (hd : RdU w x.pa x.pn x.pc x.m.deps) :
    Calls Tryd.prog 39 #[.agg (mcA x), .pointer (some ⟨kb, 0, none⟩)] w fun e w' => e = .returned (.bool t) ∧ Below w.heap.size w w' := by
  replace ht := Lib.hid ht
  have hX := BlkAt.new w 59 (mcA x)
  have hb1 := alloc_below w (.cells (mcA x) 59)
  have hmx := hd.le_max
  have hl := Lib.hid hd.len
  go_enter Tryd.func39, Tryd.ntmps39
  go_wp2_with (first
    | (refine wpList_blk_box rfl (.tmp 0) rfl rfl w.heap.size rfl ?_; generalize (w.alloc (.cells (mcA x) 59)) = w1 at *; obtain ⟨x0, x1, x2, x3, x4, x5⟩ := blk6 hX))
  replace hK := hK.below hb1
  replace hd := hd.below hb1
  clear x0 x1 x2 x3 x4 x5 hX
  go_loop [4, 5, 9] (fun _ _ i => ∃ (k : Nat), k ≤ x.pn ∧ i = .int .i64 k ∧ Hid (∀ q, q < k → fitQ K x.m.deps q)) (fun _ _ i => x.pn - (intOf i).toNat)
  case atStart => exact ⟨0, Nat.zero_le _, rfl, Lib.hid (fun q h => by omega)⟩
  case round =>
    obtain ⟨k, hk, rfl, hf⟩ := hrel
    by_cases hkn : k < x.pn
    · have hkl : k < x.m.deps.length := by rw [hl.out]; exact hkn
      obtain ⟨g, off, hga, hgl⟩ := hd.addr (by omega)
      rw [hga] at hd
      have c0 := hd.at hkl
      have hgd : Hid (x.m.deps.getD k 0 = x.m.deps[k]) := Lib.hid (by rw [List.getD_eq_getElem?_getD, List.getElem?_eq_getElem hkl]; rfl)
      have hkI : (k : Int) < x.pn := by omega
      have HF : Hid (fitQ K x.m.deps k ↔ if k < 64 then x.m.deps[k] ≤ K k else x.m.deps[k] = 0) := Lib.hid (by unfold fitQ; rw [hgd.out])
      have HN := Lib.hid (fun h => fit_not (K := K) hkl h)
      clear hgd
      generalize x.m.deps[k] = y at *
      clear hd
      obtain ⟨xm, xa, xn, xc⟩ := x
      simp only at *
      subst hga
      by_cases h64 : k < 64
      · have h64I : (k : Int) < 64 := by omega
        have kc := hK.cell k h64
        have hKk := Lib.hid (show K k = K k from rfl)
        generalize hKv : K k = kv at *
        rw [if_pos h64] at HF
        by_cases h1 : y ≤ kv
        · have h1I : (y : Int) ≤ kv := by omega
          have hq := Lib.hid (HF.out.2 h1)
          clear HF HN
          go_wp2
          go_round
          case rel => exact ⟨k + 1, by omega, by go_num, Lib.hid (fun q h => by rcases Nat.lt_succ_iff_lt_or_eq.1 h with h | rfl; exact hf.out q h; exact hq.out)⟩
          case measure => simp [intOf]; omega
        · have h1I : (kv : Int) < y := by omega
          have hz := Lib.hid (show t = false from by rw [ht.out, HN.out (fun h => h1 (HF.out.1 h))]; rfl)
          clear HF HN
          go_wp2
          go_ret
          exact ⟨by rw [hz.out]; rfl, hb1⟩
      · have h64I : (64 : Int) ≤ k := by omega
        rw [if_neg h64] at HF
        by_cases h1 : y = 0
        · have h1I : (y : Int) ≤ 0 := by omega
          have hq := Lib.hid (HF.out.2 h1)
          clear HF HN h1
          go_wp2
          go_round
          case rel => exact ⟨k + 1, by omega, by go_num, Lib.hid (fun q h => by rcases Nat.lt_succ_iff_lt_or_eq.1 h with h | rfl; exact hf.out q h; exact hq.out)⟩
          case measure => simp [intOf]; omega
        · have h1I : (0 : Int) < y := by omega
          have hz := Lib.hid (show t = false from by rw [ht.out, HN.out (fun h => h1 (HF.out.1 h))]; rfl)
          clear HF HN h1
          go_wp2
          go_ret
          exact ⟨by rw [hz.out]; rfl, hb1⟩
    · have hkn' : k = x.pn := by omega
      have hz := Lib.hid (show t = true from by rw [ht.out, fit_all (fun q h => hf.out q (by rw [hl.out] at h; omega))]; rfl)
      have hkI : (x.pn : Int) ≤ k := by omega
      go_wp2
      go_ret
      exact ⟨by rw [hz.out]; rfl, hb1⟩
end Go.Proofs.YtikhpafdnohhkaaDoor
