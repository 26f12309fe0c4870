/- walks: the reference's Apply; few -/
import Derived.Test.YtfljhbaigdfkoaaFoldA
namespace Go.Proofs.Ytfljhbaigdfkoaa
open Go.RowKit

theorem Try.strE : Try.prog.underlying 9 = some .string := Try.underlying9

theorem ent_of {S D d : ByteArray} {fr : Int} {m : Nat} (hS : S = strOfNums [(IntKind.u64.wrap fr).tmod 256 % 256, (m : Int) / 256, (m : Int) % 256]) (hm : m = min d.size 65535) (hD : D = d.extract 0 m) : S ++ D = entB fr d := by
  have e1 : (IntKind.u64.wrap fr).tmod 256 % 256 = fr % 256 := by
    rw [Int.tmod_eq_emod_of_nonneg (wrap_u64_nonneg fr), IntKind.wrap_u64]; omega
  have e2 : beL (m : Int) 2 2 = [(m : Int) / 256, (m : Int) % 256] := by
    simp [beL, List.range_succ]; omega
  rw [hS, hD, entB, ← hm, e1, e2]; rfl
theorem apB_of {s S D d : ByteArray} {fr : Int} {n k : Nat} (h : S ++ D = entB fr d) (hk : k = n - 4096) (hn : n = s.size + (S ++ D).size) : (s ++ S ++ D).extract k n = apB s fr d := by
  rw [hk, hn, h, apB, tlB, ByteArray.append_assoc, h, ByteArray.size_append]
theorem apB_of' {s S D d : ByteArray} {fr : Int} (h : S ++ D = entB fr d) (hn : s.size + (S ++ D).size ≤ 4096) : s ++ S ++ D = apB s fr d := by
  rw [ByteArray.append_assoc, h, apB, tlB, Nat.sub_eq_zero_of_le (by rw [ByteArray.size_append, ← h]; exact hn), extract_all]

set_option maxHeartbeats 800000 in
set_option maxRecDepth 100000 in
theorem ref_any (s : ByteArray) (fr : Int) (d : ByteArray) (w : World) (hs : s.size ≤ 100000000) (hd : d.size ≤ 100000000) (hf : -9223372036854775808 ≤ fr) (hf2 : fr ≤ 9223372036854775807) :
    Calls Try.prog 8 #[.string s, .int .i64 fr, .string d] w fun e w' => e = .returned (.string (apB s fr d)) ∧ Below w.heap.size w w' := by
  go_enter Try.func8, Try.ntmps8
  go_wp2_with (refine wpList_bytes_str (t := 34) (d := 9) (e := 5) Try.underlying34 Try.underlying5 Try.underlying9 rfl (.tmp 26) rfl rfl (Rd.ints3 (by first | rfl | simp)) ?_; intro S hS hS1 hS2)
  all_goals go_ret
  all_goals refine ⟨ret_str ?_, (Below.refl _ _).alloc (Nat.le_refl _) _⟩
  · exact apB_of (ent_of hS.out (by omega) (by rw [Nat.min_eq_left (by omega)])) rfl (by rw [ByteArray.size_append, ByteArray.size_extract]; omega)
  · exact apB_of (ent_of hS.out (by omega) (extract_all d).symm) rfl (by rw [ByteArray.size_append]; omega)
  · exact apB_of' (ent_of hS.out (by omega) (extract_all d).symm) (by rw [ByteArray.size_append]; omega)

/-- few: fewer than 301 steps, and fewer than 100001 bytes in all. -/
def fewGo : List (Int × ByteArray) → Nat → Nat → Bool
  | [], _, _ => true
  | x :: r, i, n => if 300 ≤ i then false else if 100000 < n + 1 + min x.2.size 100000 then false else fewGo r (i + 1) (n + 1 + min x.2.size 100000)
def fewB (l : List (Int × ByteArray)) : Bool := fewGo l 0 0
theorem fewGo_mem (l : List (Int × ByteArray)) : ∀ i n, fewGo l i n = true → (∀ x ∈ l, x.2.size < 100000) ∧ (l.length = 0 ∨ l.length + i ≤ 300) := by
  induction l with
  | nil => intro i n _; simp
  | cons x r ih =>
    intro i n h
    by_cases h1 : 300 ≤ i
    · simp [fewGo, h1] at h
    by_cases h2 : 100000 < n + 1 + min x.2.size 100000
    · simp [fewGo, h1, h2] at h
    rw [fewGo, if_neg h1, if_neg h2] at h
    obtain ⟨h3, h4⟩ := ih _ _ h
    refine ⟨fun y hy => ?_, ?_⟩
    · rcases List.mem_cons.1 hy with rfl | hy
      · omega
      · exact h3 y hy
    · simp only [List.length_cons]; omega

theorem few_stop {x : Int × ByteArray} {r : List (Int × ByteArray)} {k m : Nat} (h : 300 ≤ k ∨ 100000 < m + 1 + min x.2.size 100000) : fewGo (x :: r) k m = false := by
  rw [fewGo]
  rcases h with h | h
  · rw [if_pos h]
  · rw [if_pos h]; split <;> rfl
theorem few_go {x : Int × ByteArray} {r : List (Int × ByteArray)} {k m : Nat} (h1 : ¬ 300 ≤ k) (h2 : ¬ 100000 < x.2.size) (h3 : ¬ 100000 < m + 1 + x.2.size) : fewGo (x :: r) k m = fewGo r (k + 1) (m + 1 + x.2.size) := by
  rw [fewGo, Nat.min_eq_left (by omega : x.2.size ≤ 100000), if_neg h1, if_neg h3]
set_option maxHeartbeats 800000 in
set_option maxRecDepth 100000 in
theorem few_some (b off n c : Nat) (l : List (Int × ByteArray)) (w : World) (hn : n ≤ 9223372036854775807) (hr : Rd w 2 (some ⟨b, off, none⟩) n c (stC l)) (hz : ∀ x ∈ l, x.2.size ≤ 9223372036854775807) :
    Calls Try.prog 7 #[.slice (some ⟨b, off, none⟩) n c] w fun e w' => e = .returned (.bool (fewB l)) ∧ w = w' := by
  have hl := Lib.hid hr.stLen
  have HZ := Lib.hid hz
  clear hz
  go_enter Try.func7, Try.ntmps7
  go_wp2
  go_loop [3, 4] (fun t i => ∃ k m : Nat, k ≤ n ∧ k ≤ 300 ∧ m ≤ 100000 ∧ i = .int .i64 k ∧ t = .int .i64 m ∧ Hid (fewGo (l.drop k) k m = fewB l)) (fun _ i => n - (intOf i).toNat)
  case atStart => exact ⟨0, 0, by omega, by omega, by omega, rfl, rfl, rfl⟩
  case round =>
    obtain ⟨k, m, hk, hk3, hm, rfl, rfl, hg⟩ := hrel
    by_cases hlt : k < n
    · have hkl : k < l.length := by rw [hl.out]; exact hlt
      obtain ⟨hc1, hc2⟩ := hr.step2 k hkl
      clear hc1
      have hz2 := HZ.out _ (List.getElem_mem hkl)
      have hdrop := Lib.hid (List.drop_eq_getElem_cons hkl)
      have hstop := fun (h : 300 ≤ k ∨ 100000 < m + 1 + min l[k].2.size 100000) => Lib.hid ((few_stop (x := l[k]) (r := l.drop (k + 1)) h).symm.trans (hdrop.out ▸ hg.out))
      by_cases hA : 300 ≤ k
      · have hs := hstop (.inl hA)
        clear hstop
        go_wp2
        all_goals go_ret
        all_goals exact ⟨ret_bool hs.out, rfl⟩
      by_cases hB : 100000 < l[k].2.size
      · have hs := hstop (.inr (by omega))
        clear hstop
        go_wp2
        go_ret
        exact ⟨ret_bool hs.out, rfl⟩
      by_cases hC : 100000 < m + 1 + l[k].2.size
      · have hs := hstop (.inr (by omega))
        clear hstop
        go_wp2
        go_ret
        exact ⟨ret_bool hs.out, rfl⟩
      · clear hstop
        go_wp2
        go_round
        case rel => exact ⟨k + 1, m + 1 + l[k].2.size, by omega, by omega, by omega, by go_num, by go_num, (few_go (r := l.drop (k + 1)) hA hB hC).symm.trans (hdrop.out ▸ hg.out)⟩
        case measure => simp [intOf]; omega
    · go_wp2
      go_ret
      refine ⟨ret_bool ?_, rfl⟩
      have := hg.out
      rw [List.drop_of_length_le (by rw [hl.out]; omega)] at this
      exact this

set_option maxHeartbeats 800000 in
theorem few_nil (a : Option Addr) (c : Nat) (w : World) : Calls Try.prog 7 #[.slice a 0 c] w fun e w' => e = .returned (.bool (fewB [])) ∧ w = w' := by
  go_enter Try.func7, Try.ntmps7
  go_wp2
  refine wp_loop_rounds 1 ?_
  rw [rounds_succ]
  go_wp2
  go_ret
  exact ⟨rfl, rfl⟩
theorem few_any (a : Option Addr) (n c : Nat) (l : List (Int × ByteArray)) (w : World) (hn : n ≤ 9223372036854775807) (hr : Rd w 2 a n c (stC l)) (hz : ∀ x ∈ l, x.2.size ≤ 9223372036854775807) :
    Calls Try.prog 7 #[.slice a n c] w fun e w' => e = .returned (.bool (fewB l)) ∧ w = w' := by
  rcases hr.2 with rfl | ⟨b, off, rfl, hlt, _⟩
  · obtain rfl := List.eq_nil_of_length_eq_zero hr.stLen
    exact few_nil a c w
  · exact few_some b off n c l w hn hr hz

theorem awake_a : (apB (ByteArray.mk #[]) 2 (ByteArray.mk #[104, 105])).data = #[2, 0, 2, 104, 105] := by decide +kernel
theorem awake_a' : apB (ByteArray.mk #[]) 2 (ByteArray.mk #[104, 105]) = ByteArray.mk #[2, 0, 2, 104, 105] := ByteArray.ext awake_a
set_option maxHeartbeats 800000 in
theorem awake_any (w : World) : Calls Try.prog 6 #[] w fun e w' => e = .returned (.bool true) ∧ Below w.heap.size w w' := by
  have ha := apply_any (ByteArray.mk #[]) 2 (ByteArray.mk #[104, 105])
  rw [awake_a'] at ha
  go_enter Try.func6, Try.ntmps6
  go_wp2_with fail
  refine (ha _ (by decide) (by decide)).mono ?_
  rintro e w2 ⟨rfl, hb⟩
  have hb2 : Below w.heap.size w w2 := hb
  clear hb ha
  go_wp2_with fail
  refine (all_nil _ _ _ _).mono ?_
  rintro e w3 ⟨rfl, hb⟩
  have hb3 : Below w.heap.size w w3 := hb2.trans (hb.mono hb2.size)
  clear hb hb2
  go_wp2
  go_ret
  exact ⟨ret_bool (by decide +kernel), hb3⟩
end Go.Proofs.Ytfljhbaigdfkoaa
