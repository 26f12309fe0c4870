/- text: the library's state; numbers, processes, pairs -/
import Derived.Test.YtpkknhhohbobaaaGreatDoorTxtC
import Derived.Test.YtpkknhhohbobaaaGreatDoorShelf
import Derived.Lib.AppendIntMem
import Derived.Lib.ItoaMem
import Derived.Lib.LaidTab
import Derived.Lib.Hide
namespace Go.Proofs.YtpkknhhohbobaaaGreatDoor
set_option linter.unusedSimpArgs false
set_option linter.unusedVariables false
open Go.RowKit Go.Sort
/-- A string of bytes. -/
def mkB (l : W8) : ByteArray := ⟨l.toArray⟩
theorem mkB_list (s : ByteArray) : mkB s.data.toList = s := by unfold mkB; simp
theorem list_mkB (l : W8) : (mkB l).data.toList = l := by unfold mkB; simp
theorem mkB_size (l : W8) : (mkB l).size = l.length := by unfold mkB; simp [ByteArray.size]
theorem mkB_inj {l m : W8} (h : mkB l = mkB m) : l = m := by rw [← list_mkB l, h, list_mkB]
/-- What the library reads. -/
structure TL (w : World) : Prop where
  big : 8 ≤ w.heap.size
  tab : Lib.TabIs Tryz.prog w "internal/strconv.uint64pow10" .u64 Lib.pow10Tab
  max : ∃ m, w.cell? ⟨0, 0, none⟩ = some (.int .i64 m)
  syn : ∃ tp p, w.var? Tryz.prog "strconv.ErrSyntax" = some #[.iface tp p]
  rng : ∃ tp p, w.var? Tryz.prog "strconv.ErrRange" = some #[.iface tp p]
theorem var_keep {w w' : World} {name : String} {g : Nat} (hg : Tryz.prog.globalNamed name = some g) (h : w'.heap[g]? = w.heap[g]?) : w'.var? Tryz.prog name = w.var? Tryz.prog name := by
  unfold World.var?
  rw [hg]
  show (match w'.heap[g]? with | some (.cells cs _ _) => some cs | _ => none) = (match w.heap[g]? with | some (.cells cs _ _) => some cs | _ => none)
  rw [h]
theorem TL.keep {w w' : World} (h : TL w) (hs : w.heap.size ≤ w'.heap.size) (hk : ∀ g, g < 8 → w'.heap[g]? = w.heap[g]?) : TL w' := by
  obtain ⟨h1, h2, ⟨m, h3⟩, h4, h5⟩ := h
  refine ⟨Nat.le_trans h1 hs, ?_, ⟨m, ?_⟩, ?_, ?_⟩
  · unfold Lib.TabIs at h2 ⊢
    rw [var_keep (g := 3) (by kernel_rfl) (hk _ (by decide))]
    exact h2
  · rw [World.cell?_of_block (w := w) (hk 0 (by decide))]
    exact h3
  · rw [var_keep (g := 4) (by kernel_rfl) (hk _ (by decide))]
    exact h4
  · rw [var_keep (g := 5) (by kernel_rfl) (hk _ (by decide))]
    exact h5
theorem TL.below {w w' : World} {B : Nat} (h : TL w) (hb : Below B w w') (hB : 8 ≤ B) : TL w' := h.keep hb.size (fun g hg => hb.block g (by omega))
theorem TL.on {w w' : World} (h : TL w) (hb : Below w.heap.size w w') : TL w' := h.below hb h.big
set_option maxHeartbeats 3200000 in
set_option maxRecDepth 100000 in
theorem fmtu_any (u : Nat) (hu64 : u < 18446744073709551616) (w : World) (hT : TL w) :
    Calls Tryz.prog 91 #[.int .u64 u, .int .i64 10] w fun e w' => e = .returned (.string (mkB (Lib.decDigits u))) ∧ Below w.heap.size w w' := by
  have htab := hT.tab
  clear hT
  by_cases hs : u < 100
  · have hsI : (u : Int) < 100 := by omega
    have hwr : IntKind.i64.wrap (u : Int) = u := by rw [IntKind.wrap_i64]; omega
    have HS := Lib.hid (fun W => Tryz.internal_strconv_small u hs W)
    clear htab
    go_enter Tryz.func91, Tryz.ntmps91
    go_wp2_with fail
    refine (HS.out _).mono ?_
    rintro e w' ⟨rfl, rfl⟩
    go_wp2
    go_ret
    exact ⟨rfl, Below.refl _ _⟩
  · have iu : ¬ (u : Int) < 100 := by omega
    have hu1 : 1 ≤ u := by omega
    have hnd20 : Lib.nDigits u ≤ 20 := by have := Lib.numDigits_eq u hu1 hu64; split at this <;> omega
    have hal : Tryz.prog.arrayLen 142 = 24 := by kernel_rfl
    have hsl : ∀ W, (Instr.sliceAt 142 (.pointer (some ⟨w.heap.size, 0, none⟩)) none (some (.int .i64 (Lib.nDigits u : Int))) none).run Tryz.prog W = .ok (.slice (some ⟨w.heap.size, 0, none⟩) (Lib.nDigits u) 24) W := fun W => by
      rw [run_sliceAt_array_h W 142 ⟨w.heap.size, 0, none⟩ (by simp [Program.arrayLen, Program.elem, Tryz.underlying142]) .i64 (Lib.nDigits u : Int) (by omega) (by rw [hal]; omega)]
      go_simp
    have hH0 := Lib.holds_zero0 w 142 (Lib.nDigits u) (by omega)
    have hfmt := Tryz.internal_strconv_formatBase10 w.heap.size 0 24 u (Array.replicate (Lib.nDigits u) 0) (w.alloc (.cells Lib.zeros24 142)) hH0 (by rw [Array.size_replicate]; exact Lib.lt_pow_nDigits u) hu64 (by rw [Array.size_replicate]; omega)
    rw [Array.size_replicate] at hfmt
    have HH0 := Lib.hid hH0
    have hnd := Lib.hid (Tryz.internal_strconv_numDigits u hu1 hu64 _ (Lib.tabIs_alloc htab (.cells Lib.zeros24 142)))
    replace hfmt := Lib.hid hfmt
    clear hH0 hal htab
    go_enter Tryz.func91, Tryz.ntmps91
    go_wp2_with fail
    refine hnd.out.mono ?_
    rintro e w' ⟨rfl, rfl⟩
    go_wp2_with fail
    refine hfmt.out.mono ?_
    rintro e w' ⟨rfl, k, v', dk, rfl, hF⟩
    have hcv : (convert 67 9 (.slice (some ⟨w.heap.size, 0, none⟩) (Lib.nDigits u) 24)).run Tryz.prog ((putRow (fun (b : UInt8) => Value.int .u8 (b.toNat : Int)) (w.alloc (.cells Lib.zeros24 142)) w.heap.size 0 dk).drewN k) = .ok (.string ⟨(Lib.decDigits u).toArray⟩) ((putRow (fun (b : UInt8) => Value.int .u8 (b.toNat : Int)) (w.alloc (.cells Lib.zeros24 142)) w.heap.size 0 dk).drewN k) := by
      have h := run_convert_bytes_back (P := Tryz.prog) ((putRow (fun (b : UInt8) => Value.int .u8 (b.toNat : Int)) (w.alloc (.cells Lib.zeros24 142)) w.heap.size 0 dk).drewN k) 67 9 5 ⟨w.heap.size, 0, none⟩ 24 (Lib.decDigits u) Tryz.underlying67 Tryz.underlying5 Tryz.underlying9 (fun j hj => by
        rw [Lib.row_is_numeral hF j hj, Lib.add_plain, World.cell?_drewN]
        exact cell?_putRow (fun (b : UInt8) => Value.int .u8 (b.toNat : Int)) _ w.heap.size 0 _ dk HH0.out (by rw [hF.size, Array.size_replicate]) j (by rw [hF.size]; rw [Lib.decDigits_length] at hj; exact hj))
      rw [Lib.decDigits_length] at h
      exact h
    obtain ⟨os, eo⟩ := Lib.fin_at w (.cells Lib.zeros24 142) dk k 0
    have hb : Below w.heap.size w ((putRow (fun (b : UInt8) => Value.int .u8 (b.toNat : Int)) (w.alloc (.cells Lib.zeros24 142)) w.heap.size 0 dk).drewN k) := by rw [eo]; exact Lib.below_grow _ w (Nat.le_refl _) k os
    clear eo HH0 hfmt hnd
    generalize (putRow (fun (b : UInt8) => Value.int .u8 (b.toNat : Int)) (w.alloc (.cells Lib.zeros24 142)) w.heap.size 0 dk).drewN k = W2 at *
    go_wp2
    go_ret
    exact ⟨rfl, hb⟩
theorem fmt_any (u : Nat) (hu64 : u < 18446744073709551616) (w : World) (hT : TL w) :
    Calls Tryz.prog 82 #[.int .u64 u, .int .i64 10] w fun e w' => e = .returned (.string (mkB (Lib.decDigits u))) ∧ Below w.heap.size w w' := by
  have H := Lib.hid (fmtu_any u hu64 w hT)
  clear hT
  go_enter Tryz.func82, Tryz.ntmps82
  go_wp2_with fail
  refine H.out.mono ?_
  rintro e w' ⟨rfl, hb⟩
  go_wp2
  go_ret
  exact ⟨rfl, hb⟩
theorem num_any (u : Nat) (hu64 : u < 18446744073709551616) (w : World) (hT : TL w) :
    Calls Tryz.prog 65 #[.int .u64 u] w fun e w' => e = .returned (.string (mkB (Lib.decDigits u))) ∧ Below w.heap.size w w' := by
  have H := Lib.hid (fmt_any u hu64 w hT)
  clear hT
  go_enter Tryz.func65, Tryz.ntmps65
  go_wp2_with fail
  refine H.out.mono ?_
  rintro e w' ⟨rfl, hb⟩
  go_wp2
  go_ret
  exact ⟨rfl, hb⟩
/-- The panic of an error's number. -/
def pan (e : Int) : Ending := .panicked [{ v := .iface 35 (.int .i64 e), recovered := false }]
set_option maxHeartbeats 400000 in
theorem bad_no (e : Int) (w : World) : Calls Tryz.prog 33 #[.int .i64 e, .bool false] w fun x w' => x = .returned (.tuple #[]) ∧ w = w' := by
  go_enter Tryz.func33, Tryz.ntmps33
  go_wp2
  go_end0
  exact ⟨rfl, rfl⟩
theorem bad_f {t : Bool} (ht : t = false) (e : Int) (w : World) : Calls Tryz.prog 33 #[.int .i64 e, .bool t] w fun x w' => x = .returned (.tuple #[]) ∧ w = w' := by subst ht; exact bad_no e w
set_option maxHeartbeats 400000 in
theorem bad_yes (e : Int) (w : World) : Calls Tryz.prog 33 #[.int .i64 e, .bool true] w fun x w' => x = pan e ∧ w = w' := by
  go_enter Tryz.func33, Tryz.ntmps33
  go_wp2
  exact ⟨rfl, rfl, rfl⟩
theorem bad_t {t : Bool} (ht : t = true) (e : Int) (w : World) : Calls Tryz.prog 33 #[.int .i64 e, .bool t] w fun x w' => x = pan e ∧ w = w' := by subst ht; exact bad_yes e w
theorem prOk_t {p : Int} (h : prOk p = true) : 0 ≤ p ∧ p ≤ 63 := by
  unfold prOk at h
  rwa [Bool.and_eq_true, decide_eq_true_eq, decide_eq_true_eq] at h
theorem prOk_f {p : Int} (h : prOk p = false) : p < 0 ∨ 63 < p := by
  by_cases h1 : p < 0
  · exact .inl h1
  · by_cases h2 : 63 < p
    · exact .inr h2
    · have : prOk p = true := by unfold prOk; rw [Bool.and_eq_true, decide_eq_true_eq, decide_eq_true_eq]; omega
      rw [this] at h; cases h
set_option maxHeartbeats 800000 in
theorem proc_yes (p : Int) (h : prOk p = true) (w : World) (hT : TL w) :
    Calls Tryz.prog 63 #[.int .i64 p] w fun e w' => e = .returned (.string (mkB (prW p))) ∧ Below w.heap.size w w' := by
  obtain ⟨h0, h1⟩ := prOk_t h
  obtain ⟨k, rfl⟩ : ∃ k : Nat, p = k := ⟨p.toNat, by omega⟩
  have H := Lib.hid (num_any k (by omega) w hT)
  have hwr : IntKind.u64.wrap (k : Int) = k := by rw [IntKind.wrap_u64]; omega
  have hz := Lib.hid (show prW (k : Int) = Lib.decDigits k from by unfold prW; rw [Int.toNat_natCast])
  have h0I : ¬ (k : Int) < 0 := by omega
  have h1I : ¬ (63 : Int) < k := by omega
  clear h hT h0 h1
  go_enter Tryz.func63, Tryz.ntmps63
  go_wp2_with fail
  refine (bad_f (by first | (simp; done) | (simp; omega)) 1 _).mono ?_
  rintro e w' ⟨rfl, rfl⟩
  go_wp2_with fail
  refine H.out.mono ?_
  rintro e w' ⟨rfl, hb⟩
  go_wp2
  go_ret
  exact ⟨by rw [hz.out]; rfl, hb⟩
set_option maxHeartbeats 800000 in
theorem proc_no (p : Int) (h : prOk p = false) (w : World) :
    Calls Tryz.prog 63 #[.int .i64 p] w fun e w' => e = pan 1 ∧ w = w' := by
  by_cases h0 : p < 0
  · clear h
    go_enter Tryz.func63, Tryz.ntmps63
    go_wp2_with fail
    refine (bad_t (by first | (simp; done) | (simp; omega)) 1 _).mono ?_
    rintro e w' ⟨rfl, rfl⟩
    exact ⟨rfl, rfl, rfl⟩
  · have h1 : 63 < p := by rcases prOk_f h with h | h; omega; exact h
    clear h
    go_enter Tryz.func63, Tryz.ntmps63
    go_wp2_with fail
    refine (bad_t (by first | (simp; done) | (simp; omega)) 1 _).mono ?_
    rintro e w' ⟨rfl, rfl⟩
    exact ⟨rfl, rfl, rfl⟩
theorem pair_any (a b : W8) (hl : a.length + b.length ≤ 4611686018427387904) (w : World) :
    Calls Tryz.prog 81 #[.string (mkB a), .string (mkB b)] w fun e w' => e = .returned (.string (mkB (a ++ 46 :: b))) ∧ w = w' := by
  have h1 : Hid (mkB a ++ (⟨#[46]⟩ : ByteArray) ++ mkB b = mkB (a ++ 46 :: b)) := Lib.hid (by
    apply ByteArray.ext
    simp [mkB, ByteArray.data_append])
  have ha := mkB_size a
  have hb := mkB_size b
  have hs1 : ¬ 9223372036854775807 < (mkB a).size + 1 := by omega
  have hs2 : ¬ 9223372036854775807 < (mkB a).size + 1 + (mkB b).size := by omega
  clear ha hb hl
  generalize mkB a = x at *
  generalize mkB b = y at *
  go_enter Tryz.func81, Tryz.ntmps81
  go_wp2
  go_ret
  exact ⟨by rw [← h1.out]; rfl, rfl⟩
end Go.Proofs.YtpkknhhohbobaaaGreatDoor
