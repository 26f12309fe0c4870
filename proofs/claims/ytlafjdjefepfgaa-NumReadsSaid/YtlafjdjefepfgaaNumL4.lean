/- the walk of NumReads -/
import Derived.Test.YtlafjdjefepfgaaNumO
import Derived.Test.YtlafjdjefepfgaaNumL
namespace Go.Proofs.Ytlafjdjefepfgaa
open Go.RowKit

set_option maxHeartbeats 400000 in
theorem rtext_yes (s : ByteArray) (at_ : Nat) (n : Int) (w : World) (hz : s.size ≤ 1000000000) (hle : at_ ≤ s.size) (hn : n ≤ s.size - at_) :
    Calls Try.prog 17 #[.string s, .int .i64 at_, .int .i64 n] w fun e w' => e = .returned (.tuple #[.string (s.extract at_ (at_ + n.toNat)), .int .i64 ((at_ + n.toNat : Nat) : Int), .bool true]) ∧ w = w' := by
  by_cases h : n < 0
  · obtain ⟨m, hm⟩ : ∃ m, m = n.toNat := ⟨_, rfl⟩
    obtain rfl : m = 0 := by omega
    rw [← hm]
    clear hm
    go_enter Try.func17, Try.ntmps17
    go_wp2
    go_ret3
    exact ⟨by simp, rfl⟩
  · obtain ⟨m, rfl⟩ : ∃ m : Nat, n = m := ⟨n.toNat, by omega⟩
    rw [Int.toNat_natCast]
    go_enter Try.func17, Try.ntmps17
    go_wp2
    go_ret3
    exact ⟨by simp, rfl⟩
set_option maxHeartbeats 400000 in
theorem rtext_no (s : ByteArray) (at_ : Nat) (n : Int) (w : World) (hz : s.size ≤ 1000000000) (hle : at_ ≤ s.size) (hn : (s.size : Int) - at_ < n) :
    Calls Try.prog 17 #[.string s, .int .i64 at_, .int .i64 n] w fun e w' => e = .returned (.tuple #[.string ⟨#[]⟩, .int .i64 at_, .bool false]) ∧ w = w' := by
  have h0 : 0 < n := by omega
  go_enter Try.func17, Try.ntmps17
  go_wp2
  go_ret3
  exact ⟨rfl, rfl⟩
theorem rget_len (t : ByteArray) (w : World) (ht : t.size ≤ 8) :
    Calls Try.prog 12 #[.string t, .int .i64 0, .int .i64 t.size] w fun e w' => (∃ ok, e = .returned (.tuple #[.int .u64 (valI (bI t)), .bool ok])) ∧ w = w' := by
  by_cases h : t.size = 0
  · have ht0 : bI t = [] := List.eq_nil_of_length_eq_zero (by rw [bI_len]; exact h)
    refine (rget_no t 0 t.size w (.inl (by omega)) (by omega)).mono ?_
    rintro e w' ⟨rfl, rfl⟩
    exact ⟨⟨false, by rw [ht0]; rfl⟩, rfl⟩
  · have := rget_yes t 0 t.size w (by omega) ht (by omega) (by omega)
    rw [Nat.zero_add, show t.extract 0 t.size = t from by simp] at this
    refine this.mono ?_
    rintro e w' ⟨rfl, rfl⟩
    exact ⟨⟨true, rfl⟩, rfl⟩
set_option maxHeartbeats 400000 in
theorem rnum_yes (s : ByteArray) (at_ : Nat) (n : Int) (w : World) (hz : s.size ≤ 1000000000) (hn : at_ + szB n ≤ s.size) :
    Calls Try.prog 18 #[.string s, .int .i64 at_, .int .i64 n] w fun e w' => e = .returned (.tuple #[.int .u64 (valI (bI (s.extract at_ (at_ + szB n)))), .int .i64 ((at_ + szB n : Nat) : Int), .bool true]) ∧ w = w' := by
  have hsz := szB_le n
  have ht : (s.extract at_ (at_ + szB n)).size ≤ 8 := by rw [ByteArray.size_extract]; omega
  have hc := Lib.hid (fun w => rget_len (s.extract at_ (at_ + szB n)) w ht)
  go_enter Try.func18, Try.ntmps18
  go_wp2_with fail
  refine (rsize_any n _).mono ?_
  rintro e w1 ⟨rfl, rfl⟩
  go_wp2_with fail
  refine (rtext_yes s at_ (szB n : Nat) _ hz (by omega) (by omega)).mono ?_
  rintro e w1 ⟨rfl, rfl⟩
  rw [Int.toNat_natCast]
  obtain ⟨t, hte⟩ : ∃ t, t = s.extract at_ (at_ + szB n) := ⟨_, rfl⟩
  rw [← hte] at ht hc ⊢
  have HT := Lib.hid hte
  clear hte
  go_wp2_with fail
  refine (hc.out _).mono ?_
  rintro e w1 ⟨⟨ok, rfl⟩, rfl⟩
  go_wp2
  go_ret3
  exact ⟨by rw [HT.out]; simp, rfl⟩
set_option maxHeartbeats 400000 in
theorem rnum_no (s : ByteArray) (at_ : Nat) (n : Int) (w : World) (hz : s.size ≤ 1000000000) (hle : at_ ≤ s.size) (hn : s.size - at_ < szB n) :
    Calls Try.prog 18 #[.string s, .int .i64 at_, .int .i64 n] w fun e w' => e = .returned (.tuple #[.int .u64 0, .int .i64 at_, .bool false]) ∧ w = w' := by
  have hsz := szB_le n
  go_enter Try.func18, Try.ntmps18
  go_wp2_with fail
  refine (rsize_any n _).mono ?_
  rintro e w1 ⟨rfl, rfl⟩
  go_wp2_with fail
  refine (rtext_no s at_ (szB n : Nat) _ hz (by omega) (by omega)).mono ?_
  rintro e w1 ⟨rfl, rfl⟩
  go_wp2_with fail
  refine (rget_no ⟨#[]⟩ 0 0 _ (.inl (by decide)) (by decide)).mono ?_
  rintro e w1 ⟨rfl, rfl⟩
  go_wp2
  go_ret3
  exact ⟨rfl, rfl⟩

/-- An act's two cells. -/
def acF (x : Bool × Int) : List Value := [.bool x.1, .int .i64 x.2]
def acC (l : List (Bool × Int)) : List Value := l.flatMap acF
theorem acC_at (l : List (Bool × Int)) (k : Nat) (h : k < l.length) : (acC l)[k * 2]? = some (.bool l[k].1) ∧ (acC l)[k * 2 + 1]? = some (.int .i64 l[k].2) := by
  have h0 := flatMap_get (f := acF) (sz := 2) (fun _ => rfl) l k 0 (by decide)
  have h1 := flatMap_get (f := acF) (sz := 2) (fun _ => rfl) l k 1 (by decide)
  rw [List.getElem?_eq_getElem h] at h0 h1
  exact ⟨h0, h1⟩
theorem Rd.act2 {w : World} {b off n c : Nat} {l : List (Bool × Int)} (h : Rd w 2 (some ⟨b, off, none⟩) n c (acC l)) (k : Nat) (hk : k < l.length) :
    w.cell? ⟨b, off + k * 2, none⟩ = some (.bool l[k].1) ∧ w.cell? ⟨b, off + k * 2 + 1, none⟩ = some (.int .i64 l[k].2) := by
  have := acC_at l k hk
  exact ⟨h.at this.1, by rw [Nat.add_assoc]; exact h.at this.2⟩

set_option maxHeartbeats 3200000 in
set_option maxRecDepth 100000 in
theorem reads_main (s : ByteArray) (b off n c : Nat) (l : List (Bool × Int)) (w : World) (hs : s.size ≤ 20000) (hbw : b < w.heap.size) (hr : Rd w 2 (some ⟨b, off, none⟩) n c (acC l)) (hl : Hid (l.length = n)) (hn : n ≤ 300) :
    Calls Try.prog 6 #[.string s, .slice (some ⟨b, off, none⟩) n c] w fun e w' => e = .returned (.bool true) ∧ Below w.heap.size w w' := by
  go_enter Try.func6, Try.ntmps6
  go_wp2_with fail
  refine (awake_any _).mono ?_
  rintro e w1 ⟨rfl, hb1⟩
  go_wp2_with fail
  refine (new_any s _).mono ?_
  rintro e w2 ⟨rfl, hrd, hb⟩
  have hb2 := belS hb1 hb
  have hrb := hb1.size
  clear hb
  generalize w1.heap.size = rb at *
  go_wp2
  go_loopw [6, 7] (fun t i wr => ∃ k p : Nat, k ≤ n ∧ i = .int .i64 k ∧ t = .int .i64 p ∧ Rdr wr rb s p ∧ Below w.heap.size w wr) (fun _ i _ => n - (intOf i).toNat)
  case atStart => exact ⟨0, 0, Nat.zero_le _, rfl, rfl, hrd, hb2⟩
  case round =>
    obtain ⟨k, p, hk, rfl, rfl, hrd, hbr⟩ := hrel
    by_cases hlt : k < n
    · have hkl : k < l.length := by rw [hl.out]; exact hlt
      obtain ⟨hc1, hc2⟩ := (hr.below hbr (Nat.le_refl _)).act2 k hkl
      have hps := hrd.le
      generalize hact : l[k] = a at *
      obtain ⟨tx, m⟩ := a
      have HA := Lib.hid hact
      clear hact
      simp only at hc1 hc2
      cases tx with
      | true =>
        by_cases hfit : m ≤ s.size - p
        · skip
          obtain ⟨q, hq⟩ : ∃ q, q = p + m.toNat := ⟨_, rfl⟩
          have T1 := Lib.hid (once_text_yes rb s p m _ hrd (by omega) hfit)
          have T2 := Lib.hid (fun W => rtext_yes s p m W (by omega) hps hfit)
          rw [← hq] at T1 T2
          clear hq
          go_wp2_with fail
          refine T1.out.mono ?_
          rintro e w3 ⟨rfl, hrd3, k3⟩
          have hb3 := k3.below hbr hrb hbr.size
          obtain ⟨hc1, hc2⟩ := (hr.below hb3 (Nat.le_refl _)).act2 k hkl
          rw [HA.out] at hc1 hc2
          simp only at hc1 hc2
          have hL := Lib.hid (fun W h => left_any rb s q W h (by omega))
          have hA' := Lib.hid (fun W h => at_any rb s q W h)
          have hle := hrd3.le
          have hleft : (((s.size - q : Nat) : Int) != (s.size : Int) - q) = false := by simp; omega
          clear hrd hbr T1
          go_wp2_with (first
            | (go_at_call 17; refine (T2.out _).mono ?_; rintro e w' ⟨rfl, rfl⟩)
            | (go_at_call 19; refine (hA'.out _ hrd3).mono ?_; rintro e w' ⟨rfl, rfl⟩)
            | (go_at_call 20; refine (hL.out _ hrd3).mono ?_; rintro e w' ⟨nq, rfl, rfl⟩))
          go_roundw
          case rel => exact ⟨k + 1, q, by omega, by go_num, rfl, hrd3.drewN _, belN hb3 _⟩
          case measure => simp [intOf]; omega
        · skip
          obtain ⟨q, hq⟩ : ∃ q, q = p := ⟨_, rfl⟩
          have T1 := Lib.hid (once_text_no rb s p m _ hrd (by omega) (by omega))
          have T2 := Lib.hid (fun W => rtext_no s p m W (by omega) hps (by omega))
          subst hq
          go_wp2_with fail
          refine T1.out.mono ?_
          rintro e w3 ⟨rfl, hrd3, k3⟩
          have hb3 := k3.below hbr hrb hbr.size
          obtain ⟨hc1, hc2⟩ := (hr.below hb3 (Nat.le_refl _)).act2 k hkl
          rw [HA.out] at hc1 hc2
          simp only at hc1 hc2
          have hL := Lib.hid (fun W h => left_any rb s q W h (by omega))
          have hA' := Lib.hid (fun W h => at_any rb s q W h)
          have hle := hrd3.le
          have hleft : (((s.size - q : Nat) : Int) != (s.size : Int) - q) = false := by simp; omega
          clear hrd hbr T1
          go_wp2_with (first
            | (go_at_call 17; refine (T2.out _).mono ?_; rintro e w' ⟨rfl, rfl⟩)
            | (go_at_call 19; refine (hA'.out _ hrd3).mono ?_; rintro e w' ⟨rfl, rfl⟩)
            | (go_at_call 20; refine (hL.out _ hrd3).mono ?_; rintro e w' ⟨nq, rfl, rfl⟩))
          go_roundw
          case rel => exact ⟨k + 1, q, by omega, by go_num, rfl, hrd3.drewN _, belN hb3 _⟩
          case measure => simp [intOf]; omega
      | false =>
        by_cases hfit : p + szB m ≤ s.size
        · skip
          obtain ⟨q, hq⟩ : ∃ q, q = p + szB m := ⟨_, rfl⟩
          have T1 := Lib.hid (once_num_yes rb s p m _ hrd (by omega) hfit)
          have T2 := Lib.hid (fun W => rnum_yes s p m W (by omega) hfit)
          rw [← hq] at T1 T2
          clear hq
          go_wp2_with fail
          refine T1.out.mono ?_
          rintro e w3 ⟨rfl, hrd3, k3⟩
          have hb3 := k3.below hbr hrb hbr.size
          obtain ⟨hc1, hc2⟩ := (hr.below hb3 (Nat.le_refl _)).act2 k hkl
          rw [HA.out] at hc1 hc2
          simp only at hc1 hc2
          have hL := Lib.hid (fun W h => left_any rb s q W h (by omega))
          have hA' := Lib.hid (fun W h => at_any rb s q W h)
          have hle := hrd3.le
          have hleft : (((s.size - q : Nat) : Int) != (s.size : Int) - q) = false := by simp; omega
          clear hrd hbr T1
          go_wp2_with (first
            | (go_at_call 18; refine (T2.out _).mono ?_; rintro e w' ⟨rfl, rfl⟩)
            | (go_at_call 19; refine (hA'.out _ hrd3).mono ?_; rintro e w' ⟨rfl, rfl⟩)
            | (go_at_call 20; refine (hL.out _ hrd3).mono ?_; rintro e w' ⟨nq, rfl, rfl⟩))
          go_roundw
          case rel => exact ⟨k + 1, q, by omega, by go_num, rfl, hrd3.drewN _, belN hb3 _⟩
          case measure => simp [intOf]; omega
        · skip
          obtain ⟨q, hq⟩ : ∃ q, q = p := ⟨_, rfl⟩
          have T1 := Lib.hid (once_num_no rb s p m _ hrd (by omega) (by omega))
          have T2 := Lib.hid (fun W => rnum_no s p m W (by omega) hps (by omega))
          subst hq
          go_wp2_with fail
          refine T1.out.mono ?_
          rintro e w3 ⟨rfl, hrd3, k3⟩
          have hb3 := k3.below hbr hrb hbr.size
          obtain ⟨hc1, hc2⟩ := (hr.below hb3 (Nat.le_refl _)).act2 k hkl
          rw [HA.out] at hc1 hc2
          simp only at hc1 hc2
          have hL := Lib.hid (fun W h => left_any rb s q W h (by omega))
          have hA' := Lib.hid (fun W h => at_any rb s q W h)
          have hle := hrd3.le
          have hleft : (((s.size - q : Nat) : Int) != (s.size : Int) - q) = false := by simp; omega
          clear hrd hbr T1
          go_wp2_with (first
            | (go_at_call 18; refine (T2.out _).mono ?_; rintro e w' ⟨rfl, rfl⟩)
            | (go_at_call 19; refine (hA'.out _ hrd3).mono ?_; rintro e w' ⟨rfl, rfl⟩)
            | (go_at_call 20; refine (hL.out _ hrd3).mono ?_; rintro e w' ⟨nq, rfl, rfl⟩))
          go_roundw
          case rel => exact ⟨k + 1, q, by omega, by go_num, rfl, hrd3.drewN _, belN hb3 _⟩
          case measure => simp [intOf]; omega
    · go_wp2
      go_ret
      exact ⟨rfl, hbr⟩

set_option maxHeartbeats 400000 in
theorem reads_nil (s : ByteArray) (a : Option Addr) (c : Nat) (w : World) (hs : s.size ≤ 20000) :
    Calls Try.prog 6 #[.string s, .slice a 0 c] w fun e w' => e = .returned (.bool true) ∧ Below w.heap.size w w' := by
  go_enter Try.func6, Try.ntmps6
  go_wp2_with fail
  refine (awake_any _).mono ?_
  rintro e w1 ⟨rfl, hb1⟩
  go_wp2_with fail
  refine (new_any s _).mono ?_
  rintro e w2 ⟨rfl, hrd, hb⟩
  have hb2 := belS hb1 hb
  go_wp2
  refine wp_loop_rounds 1 ?_
  rw [rounds_succ]
  go_wp2
  go_ret
  exact ⟨rfl, hb2⟩
set_option maxHeartbeats 400000 in
theorem reads_out (s : ByteArray) (a : Option Addr) (n c : Nat) (w : World) (h : 20000 < s.size ∨ 300 < n) (hn : n ≤ 9223372036854775807) :
    Calls Try.prog 6 #[.string s, .slice a n c] w fun e w' => e = .returned (.bool true) ∧ Below w.heap.size w w' := by
  go_enter Try.func6, Try.ntmps6
  go_wp2_with fail
  refine (awake_any _).mono ?_
  rintro e w1 ⟨rfl, hb1⟩
  by_cases h1 : 20000 < s.size
  · clear h; go_wp2; go_ret; exact ⟨rfl, hb1⟩
  · have h2 : 300 < n := by omega
    clear h; go_wp2; go_ret; exact ⟨rfl, hb1⟩
/-- An act's reading. -/
def RAc : World → List Value → Bool × Int → Prop := RPair RBool (RInt .i64)
theorem opens_acts {H : Type} {enc : TypeId × Value → H} {W : World} : Opens enc Try.prog W 33 (RSlc RAc 2) :=
  opens_slice (sz := 2) Try.underlying33 (by kernel_rfl) (by decide) (opens_struct Try.underlying39 (by kernel_rfl) (OpensFs.cons (sz := 1) (total := 1) rfl (by kernel_rfl) (opens_bool Try.underlying4) (OpensFs.one rfl (by kernel_rfl) (opens_int Try.underlying3))))
theorem reads_law (s : ByteArray) (a : Option Addr) (n c : Nat) (w : World) (_ : s.size ≤ maxLen) (h : ∃ l, RSl RAc 2 w a n c l) :
    Calls Try.prog 6 #[.string s, .slice a n c] w fun e w' => e = .returned (.bool true) ∧ Below w.heap.size w w' := by
  obtain ⟨l, hl⟩ := h
  have hr : Rd w 2 a n c (acC l) := hl.flat acF (fun _ => rfl) (by decide) (fun w cs x ⟨c1, c2, e, e1, e2, _⟩ => by rw [e, e1, e2]; rfl)
  have hmx := hr.le_max
  unfold maxLen at hmx
  by_cases ho : 20000 < s.size ∨ 300 < n
  · exact reads_out s a n c w ho hmx
  · rcases hr.2 with rfl | ⟨b, off, rfl, hlt, _⟩
    · exact reads_nil s a c w (by omega)
    · exact reads_main s b off n c l w (by omega) hlt hr hl.1.1 (by omega)
end Go.Proofs.Ytlafjdjefepfgaa
