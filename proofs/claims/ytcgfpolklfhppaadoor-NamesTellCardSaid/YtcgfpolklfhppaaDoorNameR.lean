/- names: the statements' of: claims as the document has them -/
import Derived.Test.YtcgfpolklfhppaaDoorNameQ
import Derived.Test.YtcgfpolklfhppaaDoorSetR3
import Derived.Test.YtcgfpolklfhppaaDoorKpo
namespace Go.Proofs.YtcgfpolklfhppaaDoor
open Go.RowKit Go.Sort

theorem Tryd.nriE : Elt Tryd.prog 26 59 (.agg zIt.cs.toArray) 18 160 := ⟨by kernel_rfl, by kernel_rfl, rfl, by decide⟩
theorem take_flat {l : List It} {k : Nat} (h : k < l.length) : (l.take (k + 1)).flatMap (·.cs) = (l.take k).flatMap (·.cs) ++ l[k].cs := by
  rw [List.take_succ_eq_append_getElem h, List.flatMap_append]
  simp
set_option maxHeartbeats 3200000 in
set_option maxRecDepth 100000 in
theorem itof_any (a : Option Addr) (cn c : Nat) (l : List It) (hw : ∀ x ∈ l, x.Wf) (ht : ∀ x ∈ l, x.Ty) (hcn : cn ≤ 200) (w : World) (hr : RdI w a cn c l) :
    Calls Tryd.prog 7 #[.slice a cn c] w fun e w' => ∃ a' c', e = .returned (.slice a' cn c') ∧ RdI w' a' cn c' l ∧ Below w.heap.size w w' := by
  have hl := Lib.hid (hr.len hw)
  go_enter Tryd.func7, Tryd.ntmps7
  go_wp2
  go_loopw [3, 4] (fun o i wr => ∃ k : Nat, k ≤ cn ∧ i = .int .i64 k ∧ wr.ownsRow w.heap.size 59 18 o k ((l.take k).flatMap (·.cs)) ∧ Below w.heap.size w wr) (fun _ i _ => cn - (intOf i).toNat)
  case atStart => exact ⟨0, Nat.zero_le _, rfl, World.ownsRow_nil _ _ _ _, Below.refl _ _⟩
  case round =>
    obtain ⟨k, hk, rfl, hown, hbr⟩ := hrel
    by_cases hlt : k < cn
    · as_aux_lemma =>
        have hkl : k < l.length := by rw [hl.out]; exact hlt
        have hkI : (k : Int) < cn := by omega
        have hrr : RdI wr a cn c l := Rd.below hr hbr (Nat.le_refl _)
        obtain ⟨b2, off2, rfl, _⟩ := Rd.addr hrr (by omega)
        have hR := RdI.range hrr hw k hkl
        have hyw := hw _ (List.getElem_mem hkl)
        have hyt := ht _ (List.getElem_mem hkl)
        have HT := Lib.hid (take_flat hkl)
        generalize l[k] = y at *
        have hI := Lib.hid (fun W => nitem_any hyt W)
        have hIs := Tryd.itI hyw
        have hl18 := hyw.len
        have hone := hyw.one
        clear hyt hyw hrr
        go_wp2_with (first
          | (refine wpList_load_mid_g (by first | rfl | simp [Region.wanted, go_sem]) 48 (.tmp 14) rfl b2 (off2 + k * 18) rfl y.cs _ hR Tryd.underlying48 rfl hIs ?_))
        refine (hI.out _).mono ?_
        rintro e w5 ⟨rfl, b5⟩
        have b5' := belS hbr b5
        have own6 := (own_belowB hown b5).alloc (.cells y.cs.toArray 59)
        have b6 := b5'.alloc b5'.size (.cells y.cs.toArray 59)
        have hlv := Rd.blk1 (w := w5) (e := 59) (cs := y.cs) rfl hl18
        have hsz : y.cs.toArray.size = 18 := by simpa using hl18
        clear hR hI hIs b5 hown hbr
        go_wp2_with (first
          | (refine wpList_buildSlice1 rfl 26 59 (.tmp 16) rfl Tryd.nriE (by decide) rfl hsz ?_)
          | (refine wpList_append_rd Tryd.nriE rfl (.tmp 11) (.tmp 17) rfl own6 rfl hlv rfl hone (by unfold maxLen; omega) (by omega) b6.size ?_; intro v' x' hown' hg'; have b7 := belG b6 hg' b6.size (fun g hg => (own6.lt g hg).1); clear own6 hlv b6 hg'))
        go_roundw
        case rel => exact ⟨k + 1, by omega, by go_num, by rw [HT.out]; exact hown', b7⟩
        case measure => simp [intOf]; omega
    · obtain rfl : k = cn := by omega
      have hlt : l.take k = l := List.take_of_length_le (by rw [hl.out]; exact Nat.le_refl _)
      rw [hlt] at hown
      obtain ⟨a', c', rfl, hrd⟩ := Rd.own hown
      go_wp2
      go_ret
      exact ⟨a', c', rfl, hrd, hbr⟩
def hdB (n : Nat) (l : List It) (k : Nat) : Bool := (l[k]?.map (It.hold n)).getD false
theorem holdsB_len (n : Nat) (l : List It) (k : Nat) (h : ¬ k < l.length) : hdB n l k = false := by
  unfold hdB; rw [List.getElem?_eq_none (by omega)]; rfl
theorem holdsB_at (n : Nat) (l : List It) (k : Nat) (h : k < l.length) : hdB n l k = (l[k].has && decide (l[k].holds = n)) := by
  unfold hdB; rw [List.getElem?_eq_getElem h]; rfl
set_option maxHeartbeats 1600000 in
set_option maxRecDepth 100000 in
theorem rholds_any (n : Nat) (a : Option Addr) (cn c : Nat) (l : List It) (hw : ∀ x ∈ l, x.Wf) (k : Nat) (w : World) (hr : RdI w a cn c l) :
    Calls Tryd.prog 26 #[.int .u64 n, .slice a cn c, .int .i64 k] w fun e w' => e = .returned (.bool (hdB n l k)) ∧ w = w' := by
  have hl := hr.len hw
  by_cases hlt : k < cn
  · have hkl : k < l.length := by omega
    have hkI : (k : Int) < cn := by omega
    obtain ⟨b2, off2, rfl, _⟩ := Rd.addr hr (by omega)
    have hR := RdI.range hr hw k hkl
    have hyw := hw _ (List.getElem_mem hkl)
    have r3 := hR 3 _ hyw.c3
    have r4 := hR 4 _ hyw.c4
    have HB := Lib.hid (holdsB_at n l k hkl)
    generalize l[k].holds = ho at *
    generalize l[k].has = ha at *
    clear hR hyw
    cases ha with
    | false =>
      go_enter Tryd.func26, Tryd.ntmps26
      go_wp2
      go_ret
      exact ⟨ret_bool (by rw [HB.out]; rfl), rfl⟩
    | true =>
      by_cases hh : ho = n
      · subst hh
        go_enter Tryd.func26, Tryd.ntmps26
        go_wp2
        go_ret
        exact ⟨ret_bool (by rw [HB.out]; simp), rfl⟩
      · have hhI : ¬ (ho : Int) = n := by omega
        go_enter Tryd.func26, Tryd.ntmps26
        go_wp2
        go_ret
        exact ⟨ret_bool (by rw [HB.out, decide_eq_false hh]; first | rfl | (simp; omega)), rfl⟩
  · have hkI : ¬ (k : Int) < cn := by omega
    have HB := Lib.hid (holdsB_len n l k (by omega))
    go_enter Tryd.func26, Tryd.ntmps26
    go_wp2
    go_ret
    exact ⟨ret_bool (by rw [HB.out]), rfl⟩
end Go.Proofs.YtcgfpolklfhppaaDoor
