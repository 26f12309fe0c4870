/- walks of package fold: entry, Apply, All -/
import Derived.Test.YtfljhbaigdfkoaaNum
namespace Go.Proofs.Ytfljhbaigdfkoaa
open Go.RowKit

/-- Of an entry: its bytes. -/
def entB (from_ : Int) (d : ByteArray) : ByteArray := strOfNums ([from_ % 256] ++ beL (min d.size 65535 : Nat) 2 2) ++ d.extract 0 (min d.size 65535)

theorem extract_all (d : ByteArray) : d.extract 0 d.size = d := by simp
set_option maxHeartbeats 800000 in
theorem entry_any (fr : Int) (d : ByteArray) (w : World) (hd : d.size ≤ 100000000) :
    Calls Try.prog 11 #[.agg #[.int .i64 fr, .string d]] w fun e w' => e = .returned (.string (entB fr d)) ∧ Below w.heap.size w w' := by
  go_enter Try.func11, Try.ntmps11
  go_wp2_with fail
  all_goals
    refine (put_ints _ _ _ [fr % 256] _ _ _ (Rd.one (by simp)) (by omega) (by omega) (by omega)).mono ?_
    rintro e w2 ⟨a', c', rfl, hr, hown, hb⟩
    have hb2 : Below w.heap.size w w2 := (((Below.refl _ _).alloc (Nat.le_refl _) _).alloc (by simp) _).trans (hb.mono (by simp; omega))
    clear hown hb
    have hs2 := szB_le 2
    go_wp2_with (refine wpList_bytes_str (t := 34) (d := 9) (e := 5) Try.underlying34 Try.underlying5 Try.underlying9 rfl (.tmp 18) rfl rfl hr ?_; intro S hS hS1 hS2)
    go_ret
    refine ⟨ret_str ?_, hb2⟩
    rw [hS.out, entB]
    first
      | (rw [Nat.min_eq_left (by omega : 65535 ≤ d.size), Nat.min_eq_right (by omega : 65535 ≤ d.size)]; rfl)
      | (rw [Nat.min_eq_left (by omega : d.size ≤ 65535), extract_all]; rfl)

theorem beL_len (v : Int) (N k : Nat) : (beL v N k).length = k := by simp [beL]
theorem entB_size (fr : Int) (d : ByteArray) : (entB fr d).size = 3 + min d.size 65535 := by
  rw [entB, ByteArray.size_append, strOfNums_size, ByteArray.size_extract]
  simp [beL_len]
/-- The last 4096 bytes. -/
def tlB (s : ByteArray) : ByteArray := s.extract (s.size - 4096) s.size
theorem tlB_size (s : ByteArray) : (tlB s).size = min s.size 4096 := by rw [tlB, ByteArray.size_extract]; omega
def apB (s : ByteArray) (fr : Int) (d : ByteArray) : ByteArray := tlB (s ++ entB fr d)
theorem apB_size (s : ByteArray) (fr : Int) (d : ByteArray) : (apB s fr d).size ≤ 4096 := by rw [apB, tlB_size]; omega

set_option maxHeartbeats 800000 in
theorem apply_any (s : ByteArray) (fr : Int) (d : ByteArray) (w : World) (hs : s.size ≤ 100000000) (hd : d.size ≤ 100000000) :
    Calls Try.prog 9 #[.string s, .agg #[.int .i64 fr, .string d]] w fun e w' => e = .returned (.string (apB s fr d)) ∧ Below w.heap.size w w' := by
  have he := entB_size fr d
  have he2 : (entB fr d).size ≤ 65538 := by omega
  clear he
  go_enter Try.func9, Try.ntmps9
  go_wp2_with fail
  refine (entry_any fr d _ hd).mono ?_
  rintro e w2 ⟨rfl, hb⟩
  have hb2 : Below w.heap.size w w2 := (((Below.refl _ _).alloc (Nat.le_refl _) _)).trans (hb.mono (by simp))
  clear hb
  go_wp2
  all_goals go_ret
  all_goals refine ⟨ret_str ?_, hb2⟩
  · rw [apB, tlB, ByteArray.size_append, show (↑s.size + ↑(entB fr d).size - 4096 : Int).toNat = s.size + (entB fr d).size - 4096 from by omega]
  · rw [apB, tlB, ByteArray.size_append, show s.size + (entB fr d).size - 4096 = 0 from by omega]

/-- A step's two cells. -/
def stF (x : Int × ByteArray) : List Value := [.int .i64 x.1, .string x.2]
def stC (l : List (Int × ByteArray)) : List Value := l.flatMap stF
theorem stC_len (l : List (Int × ByteArray)) : (stC l).length = l.length * 2 := flatMap_len (f := stF) (sz := 2) (fun _ => rfl) l
theorem stC_at (l : List (Int × ByteArray)) (k : Nat) (h : k < l.length) : (stC l)[k * 2]? = some (.int .i64 l[k].1) ∧ (stC l)[k * 2 + 1]? = some (.string l[k].2) := by
  have h0 := flatMap_get (f := stF) (sz := 2) (fun _ => rfl) l k 0 (by decide)
  have h1 := flatMap_get (f := stF) (sz := 2) (fun _ => rfl) l k 1 (by decide)
  rw [List.getElem?_eq_getElem h] at h0 h1
  exact ⟨h0, h1⟩
theorem Rd.step2 {w : World} {b off n c : Nat} {l : List (Int × ByteArray)} (h : Rd w 2 (some ⟨b, off, none⟩) n c (stC l)) (k : Nat) (hk : k < l.length) :
    w.cell? ⟨b, off + k * 2, none⟩ = some (.int .i64 l[k].1) ∧ w.cell? ⟨b, off + k * 2 + 1, none⟩ = some (.string l[k].2) := by
  have := stC_at l k hk
  exact ⟨h.at this.1, by rw [Nat.add_assoc]; exact h.at this.2⟩
theorem Rd.stLen {w : World} {a : Option Addr} {n c : Nat} {l : List (Int × ByteArray)} (h : Rd w 2 a n c (stC l)) : l.length = n := by
  have := h.1; rw [stC_len] at this; omega

def allB (s : ByteArray) (l : List (Int × ByteArray)) : ByteArray := l.foldl (fun s x => apB s x.1 x.2) s
theorem allB_cons (s : ByteArray) (x : Int × ByteArray) (l : List (Int × ByteArray)) : allB s (x :: l) = allB (apB s x.1 x.2) l := by simp only [allB, List.foldl_cons]
theorem allB_snoc (s : ByteArray) (x : Int × ByteArray) (l : List (Int × ByteArray)) : allB s (l ++ [x]) = apB (allB s l) x.1 x.2 := by simp [allB]
theorem allB_size (s : ByteArray) (l : List (Int × ByteArray)) (h : s.size ≤ 100000000) : (allB s l).size ≤ 100000000 := by
  induction l generalizing s with
  | nil => exact h
  | cons x l ih => rw [allB_cons]; apply ih; have := apB_size s x.1 x.2; omega

set_option maxHeartbeats 800000 in
theorem all_some (s : ByteArray) (b off n c : Nat) (l : List (Int × ByteArray)) (w : World) (hs : s.size ≤ 100000000) (hn : n ≤ 100000000) (hbw : b < w.heap.size) (hr : Rd w 2 (some ⟨b, off, none⟩) n c (stC l)) (hd : ∀ x ∈ l, x.2.size ≤ 100000000) :
    Calls Try.prog 10 #[.string s, .slice (some ⟨b, off, none⟩) n c] w fun e w' => e = .returned (.string (allB s l)) ∧ Below w.heap.size w w' := by
  have hl := Lib.hid hr.stLen
  have HD := Lib.hid hd
  clear hd
  go_enter Try.func10, Try.ntmps10
  go_wp2
  go_loopw [0, 6, 9] (fun s' _ i wr => ∃ k : Nat, k ≤ n ∧ i = .int .i64 k ∧ s' = .string (allB s (l.take k)) ∧ Below w.heap.size w wr) (fun _ _ i _ => n - (intOf i).toNat)
  case atStart => exact ⟨0, Nat.zero_le _, rfl, rfl, Below.refl _ _⟩
  case round =>
    obtain ⟨k, hk, rfl, rfl, hbr⟩ := hrel
    have hsize := hbr.size
    by_cases hlt : k < n
    · obtain ⟨hc1, hc2⟩ := (hr.below hbr (Nat.le_refl _)).step2 k (by rw [hl.out]; exact hlt)
      go_wp2_with fail
      refine (apply_any _ _ _ _ (allB_size s _ hs) (HD.out _ (List.getElem_mem _))).mono ?_
      rintro e w2 ⟨rfl, hb⟩
      have hb2 : Below w.heap.size w w2 := (hbr.alloc hsize _).trans (hb.mono (by simp; omega))
      clear hb
      go_wp2
      go_roundw
      case rel => exact ⟨k + 1, by omega, by go_num, by rw [List.take_succ_eq_append_getElem (by rw [hl.out]; exact hlt), allB_snoc], hb2⟩
      case measure => simp [intOf]; omega
    · go_wp2
      go_ret
      refine ⟨ret_str ?_, hbr⟩
      rw [List.take_of_length_le (by rw [hl.out]; omega)]

set_option maxHeartbeats 800000 in
theorem all_nil (s : ByteArray) (a : Option Addr) (c : Nat) (w : World) :
    Calls Try.prog 10 #[.string s, .slice a 0 c] w fun e w' => e = .returned (.string (allB s [])) ∧ Below w.heap.size w w' := by
  go_enter Try.func10, Try.ntmps10
  go_wp2
  refine wp_loop_rounds 1 ?_
  rw [rounds_succ]
  go_wp2
  go_ret
  exact ⟨rfl, Below.refl _ _⟩

theorem all_any (s : ByteArray) (a : Option Addr) (n c : Nat) (l : List (Int × ByteArray)) (w : World) (hs : s.size ≤ 100000000) (hn : n ≤ 100000000) (hr : Rd w 2 a n c (stC l)) (hd : ∀ x ∈ l, x.2.size ≤ 100000000) :
    Calls Try.prog 10 #[.string s, .slice a n c] w fun e w' => e = .returned (.string (allB s l)) ∧ Below w.heap.size w w' := by
  rcases hr.2 with rfl | ⟨b, off, rfl, hlt, _⟩
  · have hl := hr.stLen
    obtain rfl := List.eq_nil_of_length_eq_zero hl
    exact all_nil s a c w
  · exact all_some s b off n c l w hs hn hlt hr hd
end Go.Proofs.Ytfljhbaigdfkoaa
