/- the walk of Few -/
import Derived.Test.YtnpinkcadkkeoaaVoteJ
namespace Go.Proofs.Ytnpinkcadkkeoaa
open Go.RowKit Go.Sort

def fewB (l : List Rc) : Bool := decide (l.length + tot l ≤ 300)
set_option maxHeartbeats 1600000 in
set_option maxRecDepth 100000 in
theorem few_any (a : Option Addr) (n c : Nat) (l : List Rc) (hz : ∀ r ∈ l, r.pend.length ≤ 4398046511104) (w : World) (hr : RdR w a n c l) :
    Calls Try.prog 8 #[.slice a n c] w fun e w' => e = .returned (.bool (fewB l)) ∧ w = w' := by
  have hmx := hr.le_max
  unfold maxLen at hmx
  have hl := Lib.hid hr.len
  have HF := Lib.hid (show fewB l = decide (l.length + tot l ≤ 300) from rfl)
  go_enter Try.func8, Try.ntmps8
  go_wp2
  go_loop [3, 4] (fun z i => ∃ k v : Nat, k ≤ n ∧ i = .int .i64 k ∧ z = .int .i64 v ∧ Hid (v = k + tot (l.take k)) ∧ v ≤ 300) (fun _ i => n - (intOf i).toNat)
  case atStart => exact ⟨0, 0, Nat.zero_le _, rfl, rfl, rfl, Nat.zero_le _⟩
  case round =>
    obtain ⟨k, v, hk, rfl, rfl, hv, hv3⟩ := hrel
    by_cases hlt : k < n
    · have hkl : k < l.length := by rw [hl.out]; exact hlt
      obtain ⟨bs, off, rfl, _, hcs⟩ := hr.addr (by omega)
      obtain ⟨pa, pn, pc, ⟨c0, c1, c2, c3, c4⟩, hp⟩ := hcs k hkl
      have hpn := hz _ (List.getElem_mem hkl)
      rw [hp.len] at hpn
      have hkI : (k : Int) < n := by omega
      have HT := Lib.hid (show v + 1 + pn = (k + 1) + tot (l.take (k + 1)) from by rw [tot_take l k hkl, hp.len, hv.out]; omega)
      have HG := Lib.hid (show (k + 1) + tot (l.take (k + 1)) ≤ l.length + tot l from by have := tot_le l (k + 1); omega)
      clear hcs hp c0 c1 c2 c3
      by_cases hbig : 300 < v + 1 + pn
      · go_wp2
        go_ret
        exact ⟨ret_bool (by rw [HF.out]; symm; rw [decide_eq_false_iff_not]; have h1 := HT.out; have h2 := HG.out; omega), rfl⟩
      · go_wp2
        go_round
        case rel => exact ⟨k + 1, v + 1 + pn, by omega, by go_num, by go_num, HT.out, by omega⟩
        case measure => simp [intOf]; omega
    · obtain rfl : k = n := by omega
      go_wp2
      go_ret
      exact ⟨ret_bool (by rw [HF.out]; symm; rw [decide_eq_true_eq]; have h1 := hv.out; rw [List.take_of_length_le (by have := hl.out; omega)] at h1; have := hl.out; omega), rfl⟩
end Go.Proofs.Ytnpinkcadkkeoaa
