/- the walk of NumPuts -/
import Derived.Test.YtlafjdjefepfgaaNumL
import Derived.Deep.RegionHeld3
namespace Go.Proofs.Ytlafjdjefepfgaa
open Go.RowKit

set_option maxHeartbeats 1600000 in
set_option maxRecDepth 100000 in
theorem puts_main (xa : Option Addr) (m c : Nat) (l : List Int) (v : Nat) (n : Int) (w : World) (hr : Rd w 1 xa m c (l.map (Value.int .u8))) (hm : m ≤ 20000) (hv : v < 18446744073709551616) (hl8 : Hid (∀ x ∈ l, 0 ≤ x ∧ x < 256)) :
    Calls Try.prog 3 #[.slice xa m c, .int .u64 v, .int .i64 n] w fun e w' => e = .returned (.bool true) ∧ Below w.heap.size w w' := by
  have hlm : l.length = m := by simpa using hr.length_eq
  have HL := Lib.hid hlm
  clear hlm
  go_enter Try.func3, Try.ntmps3
  go_wp2_with fail
  refine (awake_any _).mono ?_
  rintro e w1 ⟨rfl, hb1⟩
  have hr1 := hr.below hb1 (Nat.le_refl _)
  go_wp2_with (first
    | (at_make; refine wpList_mkx Try.byteE rfl rfl _ _ rfl (m + 16) rfl rfl (by omega) (by omega) (by unfold maxLen; omega) ?_)
    | (at_builtin; refine wpList_append_room Try.byteE rfl (.tmp 20) (.tmp 21) rfl (heap_alloc_new w1 _) rfl (by simp) (by unfold maxLen; omega) (hr1.alloc _) rfl (oneCell_ints _ _) (by omega) ?_; intro w2 hblk hg2))
  have hmine : Rd w2 1 (some ⟨w1.heap.size, 0, none⟩) m (m + 16) (l.map (Value.int .u8)) :=
    Rd.block hblk (by simp [HL.out]) (by omega) (by unfold maxLen; omega) (by simp [HL.out])
  have hz2 := hg2.size
  simp at hz2
  have hbel2 : Below w.heap.size w w2 := (hb1.alloc hb1.size _).grown hg2 (by have := hb1.size; simp; omega) (fun k hk => by cases hk; exact hb1.size)
  refine (put_ints _ _ _ l v n _ hmine (by omega) (by omega) (by omega)).mono ?_
  rintro e w3 ⟨a', c', rfl, hd, hown, hb3⟩
  have hsz := szB_le n
  generalize hN : szB n = N at *
  have HN := Lib.hid hN
  clear hN
  have hcat : strOfNums (l ++ beL v N N) = strOfNums l ++ strOfNums (beL v N N) := by apply ByteArray.ext; simp [strOfNums]
  have hrp := Lib.hid (fun W => rput_any (strOfNums l) v n W (by rw [strOfNums_size, HL.out]; omega) (by omega) (by omega))
  rw [HN.out] at hrp
  have HC1 := fun W (hb : Below w3.heap.size w3 W) => (run_bytes_str (P := Try.prog) (t := 22) (d := 9) (e := 5) Try.underlying22 Try.underlying5 Try.underlying9 (hd.below hb (Nat.le_refl _)))
  rw [hcat] at HC1
  have HC2 := fun W (hb : Below w3.heap.size w3 W) => (run_bytes_str (P := Try.prog) (t := 22) (d := 9) (e := 5) Try.underlying22 Try.underlying5 Try.underlying9 ((hr.below hbel2 (Nat.le_refl _)).below (hb3.trans (hb.mono hb3.size)) (Nat.le_refl _)))
  have HC3 := fun W (hb : Below w3.heap.size w3 W) => (run_bytes_str (P := Try.prog) (t := 22) (d := 9) (e := 5) Try.underlying22 Try.underlying5 Try.underlying9 ((hmine.below hb3 (Nat.le_refl _)).below hb (Nat.le_refl _)))
  have hS0 := Below.refl w3.heap.size w3
  go_wp2
  go_region_held3 (fun w' => Below w3.heap.size w3 w') (first | assumption | exact Below.drew (by assumption) | (refine belS ?_ (by assumption); assumption))
    (first | (go_at_call 10; (with_reducible refine (hrp.out _).mono ?_); rintro e w4 ⟨rfl, hb⟩))
  have hB4 : Below w2.heap.size w2 w4 := hb3.trans (Below.mono (by assumption) hb3.size)
  have hown4 : w4.ownsRow w2.heap.size 5 1 (.slice a' (m + N) c') (m + N) ((l ++ beL v N N).map (Value.int .u8)) := by
    have hk : Below w3.heap.size w3 w4 := by assumption
    exact hown.kept (row := none) ⟨hk.os, hk.tape, hk.output, hk.size, fun k h _ => hk.block k h⟩ (by cases hv : (Value.slice a' (m + N) c').ownBlock <;> simp)
  have HM : ∀ k, k < 16 → ∀ W, Below w2.heap.size w2 W → W.cell? ⟨w1.heap.size, m + k, none⟩ = some (.int .u8 0) := fun k hk W hb => by
    rw [hb.cell (p := ⟨w1.heap.size, m + k, none⟩) (by show w1.heap.size < _; omega), cell_of_row w2 _ (m + k) _ _ _ hblk]
    have hlm : (l.map (Value.int .u8)).length = m := by rw [List.length_map]; exact HL.out
    simp [List.getElem?_append_right, HL.out, hk]
    exact (List.getElem_of_eq (l' := List.replicate 16 (Value.int IntKind.u8 0)) rfl _).trans (List.getElem_replicate _)
  have HC4 : ∀ W, Below w2.heap.size w2 W → (convert 22 9 (.slice xa m c)).run Try.prog W = .ok (.string (strOfNums l)) W := fun W hb =>
    (run_bytes_str (P := Try.prog) (t := 22) (d := 9) (e := 5) Try.underlying22 Try.underlying5 Try.underlying9 ((hr.below hbel2 (Nat.le_refl _)).below hb (Nat.le_refl _)))
  have HC5 : ∀ W, Below w2.heap.size w2 W → (convert 22 9 (.slice (some ⟨w1.heap.size, 0, none⟩) m (m + 16))).run Try.prog W = .ok (.string (strOfNums l)) W := fun W hb =>
    (run_bytes_str (P := Try.prog) (t := 22) (d := 9) (e := 5) Try.underlying22 Try.underlying5 Try.underlying9 (hmine.below hb (Nat.le_refl _)))
  clear HC1 HC2 HC3 hrp hcat hd hown hr1 hr hblk hg2 hmine hb1 hS0
  rename_i hH
  clear hH
  clear hb hb3
  have HM := Lib.hid HM
  have HC4 := Lib.hid HC4
  have HC5 := Lib.hid HC5
  go_wp2
  go_loop [10] (fun i => ∃ k : Nat, k ≤ 16 ∧ i = .int .i64 ((m + k : Nat) : Int)) (fun i => m + 16 - (intOf i).toNat)
  case atStart => exact ⟨0, Nat.zero_le _, rfl⟩
  case round =>
    obtain ⟨k, hk, rfl⟩ := hrel
    by_cases hlt : k < 16
    · have hcell := HM.out k hlt w4 hB4
      go_wp2
      go_round
      case rel => exact ⟨k + 1, by omega, by go_num⟩
      case measure => simp [intOf]; omega
    · clear HM
      go_wp2
      go_loopw [11] (fun i wr => ∃ k : Nat, ∃ ys : List Value, k ≤ m + N ∧ i = .int .i64 k ∧ Hid (∀ u ∈ ys, ∃ z : Int, u = .int .u8 z) ∧ wr.ownsRow w2.heap.size 5 1 (.slice a' (m + N) c') (m + N) ys ∧ Below w2.heap.size w2 wr) (fun i _ => m + N - (intOf i).toNat)
      case atStart => exact ⟨0, _, Nat.zero_le _, rfl, fun u hu => by obtain ⟨z, _, rfl⟩ := List.mem_map.1 hu; exact ⟨z, rfl⟩, hown4, hB4⟩
      case round =>
        obtain ⟨j, ys, hj, rfl, hys, hown, hbr⟩ := hrel
        by_cases hlt : j < m + N
        · obtain ⟨g, rfl⟩ : ∃ g, a' = some ⟨g, 0, none⟩ := by
            rcases hown.2 with ⟨h, h'⟩ | ⟨g, cap, cur, h, _⟩
            · omega
            · simp only [Value.slice.injEq] at h; exact ⟨g, h.1⟩
          have hyl := hown.1
          rw [Nat.mul_one] at hyl
          obtain ⟨z, hz⟩ := hys.out _ (List.getElem_mem (show j < ys.length by omega))
          have hcell : wr.cell? ⟨g, j, none⟩ = some (.int .u8 z) := by
            rw [hown.cellAt j (by omega), List.getElem?_eq_getElem (by omega), hz]
          have hfz := hown.frozenAt j
          have hst := fun u => Lib.hid (hown.stored j u)
          have hlt2 := hown.lt g rfl
          have hyl := Lib.hid hyl
          have hz := Lib.hid hz
          go_wp2
          go_roundw
          case rel => exact ⟨j + 1, _, by omega, by go_num, fun u hu => by
              rcases List.mem_or_eq_of_mem_set hu with h | rfl
              · exact hys.out u h
              · exact ⟨_, rfl⟩, (hst _).out.1, hbr.setCell hlt2.1 _⟩
          case measure => simp [intOf]; omega
        · have hc4 := HC4.out wr hbr
          have hc5 := HC5.out wr hbr
          go_wp2
          go_ret
          exact ⟨ret_bool (by simp), hbel2.trans (hbr.mono hbel2.size)⟩

set_option maxHeartbeats 400000 in
theorem puts_out (xa : Option Addr) (m c : Nat) (v n : Int) (w : World) (hm : 20000 < m) :
    Calls Try.prog 3 #[.slice xa m c, .int .u64 v, .int .i64 n] w fun e w' => e = .returned (.bool true) ∧ Below w.heap.size w w' := by
  go_enter Try.func3, Try.ntmps3
  go_wp2_with fail
  refine (awake_any _).mono ?_
  rintro e w1 ⟨rfl, hb1⟩
  go_wp2
  go_ret
  exact ⟨rfl, hb1⟩
theorem puts_law (xa : Option Addr) (m c : Nat) (v n : Int) (w : World) (h : ∃ l, RSl (RInt .u8) 1 w xa m c l) (hv : (Lit.int .u64 v).wf = true) (_ : (Lit.int .i64 n).wf = true) :
    Calls Try.prog 3 #[.slice xa m c, .int .u64 v, .int .i64 n] w fun e w' => e = .returned (.bool true) ∧ Below w.heap.size w w' := by
  obtain ⟨l, hl⟩ := h
  by_cases hm : 20000 < m
  · exact puts_out xa m c v n w hm
  · obtain ⟨h0, h1⟩ := wf_u64_bounds hv
    obtain ⟨u, rfl⟩ : ∃ u : Nat, v = u := ⟨v.toNat, by omega⟩
    exact puts_main xa m c l u n w hl.ints (by omega) (by omega) (fun x hx => wf_u8_bounds (hl.intsWf x hx))
end Go.Proofs.Ytlafjdjefepfgaa
