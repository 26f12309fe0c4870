/- text: the reference's digits, bytes, words -/
import Derived.Test.YtpkknhhohbobaaaGreatDoorTxtJQ
namespace Go.Proofs.YtpkknhhohbobaaaGreatDoor
set_option linter.unusedSimpArgs false
set_option linter.unusedVariables false
open Go.RowKit Go.Sort
theorem one_row {w : World} (c : UInt8) : Rd (w.alloc (.cells #[.int .u8 (c.toNat : Int)] 5)) 1 (some ⟨w.heap.size, 0, none⟩) 1 1 (([c] : W8).map fun b => .int .u8 (b.toNat : Int)) := Rd.lit rfl rfl (by decide)
set_option maxHeartbeats 1600000 in
set_option maxRecDepth 100000 in
theorem rdig_any (u : Nat) (hu : u < 18446744073709551616) : ∀ w : World, Calls Tryz.prog 56 #[.int .u64 u] w fun e w' => e = .returned (.string (mkB (Lib.decDigits u))) ∧ Below w.heap.size w w' := by
  induction u using Nat.strongRecOn with
  | ind u ih =>
    intro w
    by_cases h : u < 10
    · have hI : (u : Int) < 10 := by omega
      have hc : (UInt8.ofNat (48 + u)).toNat = 48 + u := ofNat_toNat (by omega)
      have hr := one_row (w := w) (UInt8.ofNat (48 + u))
      rw [← Lib.decDigits_one h, hc] at hr
      have hwr : IntKind.u64.wrap (48 + (u : Int)) = 48 + u := by rw [IntKind.wrap_u64]; omega
      have hw8 : IntKind.u8.wrap (48 + (u : Int)) = 48 + u := by rw [IntKind.wrap_u8]; omega
      have hcast : (((48 + u : Nat)) : Int) = 48 + (u : Int) := by omega
      rw [hcast] at hr
      clear ih hc hcast
      go_enter Tryz.func56, Tryz.ntmps56
      go_wp2_with (first | (refine wpList_cU_str Tryz.underlying67 Tryz.underlying5 Tryz.underlying9 rfl (.tmp 8) rfl rfl hr ?_))
      go_ret
      exact ⟨rfl, alloc_below _ _⟩
    · have hI : ¬ (u : Int) < 10 := by omega
      have H1 := Lib.hid (ih (u / 10) (by omega) (by omega))
      have H2 := Lib.hid (ih (u % 10) (by omega) (by omega))
      have hq : ((u / 10 : Nat) : Int) = (u : Int) / 10 := by omega
      have hm : ((u % 10 : Nat) : Int) = (u : Int) % 10 := by omega
      rw [hq] at H1
      rw [hm] at H2
      have hd1 : Lib.decDigits (u % 10) = [UInt8.ofNat (48 + u % 10)] := Lib.decDigits_one (by omega)
      have hz := Lib.hid (show mkB (Lib.decDigits (u / 10)) ++ mkB (Lib.decDigits (u % 10)) = mkB (Lib.decDigits u) from by rw [mkB_append, hd1, ← num_big h])
      have hl1 := num_len (show u / 10 < 18446744073709551616 by omega)
      have hl2 := num_len (show u % 10 < 18446744073709551616 by omega)
      have hs1 := mkB_size (Lib.decDigits (u / 10))
      have hs2 := mkB_size (Lib.decDigits (u % 10))
      generalize mkB (Lib.decDigits (u / 10)) = X at *
      generalize mkB (Lib.decDigits (u % 10)) = Y at *
      have hs : ¬ 9223372036854775807 < X.size + Y.size := by omega
      clear ih hq hm hd1 hl1 hl2 hs1 hs2
      go_enter Tryz.func56, Tryz.ntmps56
      go_wp2_with fail
      refine (H1.out _).mono ?_
      rintro e w1 ⟨rfl, hb1⟩
      go_wp2_with fail
      refine (H2.out _).mono ?_
      rintro e w2 ⟨rfl, hb2⟩
      go_wp2
      go_ret
      exact ⟨by rw [← hz.out]; rfl, belS hb1 hb2⟩
/-- A line that is made: its text, whether all is well, after n words. -/
def LnT (w : World) (b : Nat) (ws : List W8) (ok : Bool) (n : Nat) : Prop := ∃ s, BlkAt w b 100 #[.string s, .bool ok] ∧ (ok = true → s = mkB (Lib.join ws [32]) ∧ ∀ u ∈ ws, u ≠ []) ∧ s.size ≤ n * 30000000
section
variable {b n : Nat} {w w' : World} {ws : List W8} {ok : Bool}
theorem LnT.lt (h : LnT w b ws ok n) : b < w.heap.size := by obtain ⟨_, h1, _⟩ := h; exact h1.lt
theorem LnT.below (h : LnT w b ws ok n) (k : Below w.heap.size w w') : LnT w' b ws ok n := by
  obtain ⟨s, h1, h2⟩ := h
  exact ⟨s, h1.below k h1.lt, h2⟩
theorem join_snoc (ws : List W8) (u : W8) (h : ws ≠ []) : Lib.join (ws ++ [u]) [32] = Lib.join ws [32] ++ 32 :: u := by
  induction ws with
  | nil => exact absurd rfl h
  | cons v ws ih =>
    cases ws with
    | nil => rw [List.singleton_append, join_cons2 _ _ (by simp), Lib.join_one, Lib.join_one]; simp
    | cons v2 ws =>
      rw [List.cons_append, join_cons2 _ _ (by simp), ih (by simp), join_cons2 v _ (by simp)]
      simp
theorem join_ne {ws : List W8} (h : ws ≠ []) (h2 : ∀ u ∈ ws, u ≠ []) : Lib.join ws [32] ≠ [] := by
  cases ws with
  | nil => exact absurd rfl h
  | cons v ws =>
    rw [Lib.join_cons]
    intro e
    exact h2 v (by simp) (List.append_eq_nil_iff.1 e).1
set_option maxHeartbeats 1600000 in
theorem rsay_any (t u : W8) (h : LnT w b ws ok n) (ht : t.length ≤ 29999990) (hu : ok = true → t = u ∧ u ≠ []) (hn : n ≤ 4194304) :
    Calls Tryz.prog 40 #[.pointer (some ⟨b, 0, none⟩), .string (mkB t)] w fun e w' => e = .returned (.tuple #[]) ∧ LnT w' b (ws ++ [u]) ok (n + 1) ∧ Kp b w w' := by
  have hb := h.lt
  obtain ⟨s, h1, h2, h3⟩ := h
  have c0 : w.cell? ⟨b, 0, none⟩ = some (.string s) := h1.cell rfl
  have f0 := h1.fz 0
  have hts := mkB_size t
  by_cases hs0 : s = mkB []
  · have hse : s.toList = [] := by rw [hs0, ByteArray.toList_eq]; rfl
    have hz := Lib.hid (show s ++ mkB t = mkB t from by rw [hs0, mkB_append]; rfl)
    have hss : s.size = 0 := by rw [hs0, mkB_size]; rfl
    have hsz : ¬ 9223372036854775807 < s.size + (mkB t).size := by omega
    replace hs0 := Lib.hid hs0
    replace h2 := Lib.hid h2
    replace hu := Lib.hid hu
    obtain ⟨T, hT⟩ : ∃ z, z = mkB t := ⟨_, rfl⟩
    rw [← hT] at hz hsz hts ⊢
    replace hT := Lib.hid hT
    go_enter Tryz.func40, Tryz.ntmps40
    go_wp2
    go_end0
    refine ⟨rfl, ⟨_, BlkAt.set h1 0 _, fun e => ?_, ?_⟩, (Kp.refl b w).setCell ⟨b, 0, none⟩ rfl _⟩
    · obtain ⟨a1, a2⟩ := h2.out e
      obtain ⟨a3, a4⟩ := hu.out e
      have hws : ws = [] := by
        cases ws with
        | nil => rfl
        | cons v ws => exact absurd (mkB_inj (a1.symm.trans hs0.out)) (join_ne (by simp) a2)
      subst hws
      refine ⟨by rw [hz.out, hT.out, a3]; simp [Lib.join_one], fun v hv => ?_⟩
      rcases List.mem_append.1 hv with hv | hv
      · cases hv
      · obtain rfl := List.mem_singleton.1 hv; exact a4
    · rw [hz.out]; omega
  · have hse : s.toList.isEmpty = false := by
      rw [Bool.eq_false_iff]
      intro e
      exact hs0 (by rw [← mkB_list s, ← ByteArray.toList_eq, List.isEmpty_iff.1 e])
    have hz := Lib.hid (show s ++ (⟨#[32]⟩ : ByteArray) ++ mkB t = mkB (s.data.toList ++ 32 :: t) from by
      rw [← mkB_list s, list_mkB, show (⟨#[32]⟩ : ByteArray) = mkB [32] from rfl, mkB_append, mkB_append]; simp)
    have hsz1 : ¬ 9223372036854775807 < s.size + 1 := by omega
    have hsz2 : ¬ 9223372036854775807 < s.size + 1 + (mkB t).size := by omega
    have hsl : s.size = s.data.toList.length := by rw [Array.length_toList]; rfl
    replace hsl := Lib.hid hsl
    replace hs0 := Lib.hid hs0
    replace h2 := Lib.hid h2
    replace hu := Lib.hid hu
    obtain ⟨T, hT⟩ : ∃ z, z = mkB t := ⟨_, rfl⟩
    rw [← hT] at hz hsz2 hts ⊢
    replace hT := Lib.hid hT
    go_enter Tryz.func40, Tryz.ntmps40
    go_wp2
    go_end0
    refine ⟨rfl, ⟨_, (BlkAt.set (BlkAt.set h1 0 _) 0 _), fun e => ?_, ?_⟩, ((Kp.refl b w).setCell ⟨b, 0, none⟩ rfl _).setCell ⟨b, 0, none⟩ rfl _⟩
    · obtain ⟨a1, a2⟩ := h2.out e
      obtain ⟨a3, a4⟩ := hu.out e
      have hws : ws ≠ [] := fun e2 => hs0.out (by rw [a1, e2]; rfl)
      refine ⟨by rw [hz.out, a1, list_mkB, join_snoc _ _ hws, a3], fun v hv => ?_⟩
      rcases List.mem_append.1 hv with hv | hv
      · exact a2 v hv
      · obtain rfl := List.mem_singleton.1 hv; exact a4
    · rw [hz.out, mkB_size, List.length_append, List.length_cons, ← hsl.out]
      omega
set_option maxHeartbeats 800000 in
theorem rproc_any (p : Int) (h : LnT w b ws ok n) :
    Calls Tryz.prog 41 #[.pointer (some ⟨b, 0, none⟩), .int .i64 p] w fun e w' => e = .returned (.string (mkB (if prOk p = true then prW p else []))) ∧ LnT w' b ws (ok && prOk p) n ∧ Kp b w w' := by
  have hb := h.lt
  cases hp : prOk p with
  | true =>
    obtain ⟨h0, h1⟩ := prOk_t hp
    obtain ⟨k, rfl⟩ : ∃ k : Nat, p = k := ⟨p.toNat, by omega⟩
    have H := Lib.hid (rdig_any k (by omega) w)
    have hwr : IntKind.u64.wrap (k : Int) = k := by rw [IntKind.wrap_u64]; omega
    have hz := Lib.hid (show prW (k : Int) = Lib.decDigits k from by unfold prW; rw [Int.toNat_natCast])
    have h0I : ¬ (k : Int) < 0 := by omega
    have h1I : ¬ (63 : Int) < k := by omega
    have h' := Lib.hid h
    clear hp h0 h1 h
    go_enter Tryz.func41, Tryz.ntmps41
    go_wp2_with fail
    refine H.out.mono ?_
    rintro e w1 ⟨rfl, hb1⟩
    go_wp2
    go_ret
    exact ⟨by rw [hz.out]; rfl, h'.out.below hb1, Kp.ofBelow hb1⟩
  | false =>
    obtain ⟨s, h1, h2, h3⟩ := h
    have f1 := h1.fz 1
    have c1 : w.cell? ⟨b, 1, none⟩ = some (.bool ok) := h1.cell rfl
    have hfin := Lib.hid (show LnT (w.setCell ⟨b, 1, none⟩ (.bool false)) b ws false n from ⟨s, h1.set 1 _, (fun e => by cases e), h3⟩)
    by_cases h0 : p < 0
    · clear hp h2 h3
      go_enter Tryz.func41, Tryz.ntmps41
      go_wp2
      go_ret
      exact ⟨rfl, hfin.out, (Kp.refl b w).setCell ⟨b, 1, none⟩ rfl _⟩
    · have h1I : 63 < p := by rcases prOk_f hp with h | h; omega; exact h
      clear hp h2 h3
      go_enter Tryz.func41, Tryz.ntmps41
      go_wp2
      go_ret
      exact ⟨rfl, hfin.out, (Kp.refl b w).setCell ⟨b, 1, none⟩ rfl _⟩
end
end Go.Proofs.YtpkknhhohbobaaaGreatDoor
