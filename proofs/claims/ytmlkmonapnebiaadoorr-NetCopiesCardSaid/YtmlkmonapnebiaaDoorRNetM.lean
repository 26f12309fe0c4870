/- the net: readings of acts; the walk of Few -/
import Derived.Test.YtmlkmonapnebiaaDoorRNetL
namespace Go.Proofs.YtmlkmonapnebiaaDoorR
open Go.RowKit Go.Sort

def RdN (w : World) (a : Option Addr) (n c : Nat) (l : List NAc) : Prop := Rd w 9 a n c (l.flatMap naC)
theorem RdN.len {w : World} {a : Option Addr} {n c : Nat} {l : List NAc} (h : RdN w a n c l) : l.length = n := by
  have := Rd.length_eq h
  rw [flatMap_len naC_len] at this
  omega
theorem RdN.at {w : World} {b off n c : Nat} {l : List NAc} (h : RdN w (some ⟨b, off, none⟩) n c l) (k : Nat) (hk : k < l.length) :
    w.cell? ⟨b, off + k * 9, none⟩ = some (.int .i64 l[k].kind) ∧ w.cell? ⟨b, off + k * 9 + 1, none⟩ = some (.int .i64 l[k].d.src) ∧ w.cell? ⟨b, off + k * 9 + 2, none⟩ = some (.int .i64 l[k].d.dst) ∧ w.cell? ⟨b, off + k * 9 + 3, none⟩ = some (.string l[k].d.data) ∧ w.cell? ⟨b, off + k * 9 + 4, none⟩ = some (.bool l[k].d.torn) ∧ w.cell? ⟨b, off + k * 9 + 5, none⟩ = some (.int .i64 l[k].i) ∧ w.cell? ⟨b, off + k * 9 + 6, none⟩ = some (.int .i64 l[k].at_) ∧ w.cell? ⟨b, off + k * 9 + 7, none⟩ = some (.int .u8 l[k].mask) ∧ w.cell? ⟨b, off + k * 9 + 8, none⟩ = some (.int .u64 l[k].s) := by
  have e : ∀ j u, j < 9 → (naC l[k])[j]? = some u → w.cell? ⟨b, off + (k * 9 + j), none⟩ = some u := fun j u hj hu =>
    Rd.at h (by rw [flatMap_get naC_len _ _ _ hj, List.getElem?_eq_getElem hk]; exact hu)
  exact ⟨e 0 _ (by decide) rfl, e 1 _ (by decide) rfl, e 2 _ (by decide) rfl, e 3 _ (by decide) rfl, e 4 _ (by decide) rfl, e 5 _ (by decide) rfl, e 6 _ (by decide) rfl, e 7 _ (by decide) rfl, e 8 _ (by decide) rfl⟩
def RDg : World → List Value → Int × Int × ByteArray × Bool → Prop := RPair (RInt .i64) (RPair (RInt .i64) (RPair RStr RBool))
def RNa := RPair (RInt .i64) (RPair RDg (RPair (RInt .i64) (RPair (RInt .i64) (RPair (RInt .u8) (RInt .u64)))))
theorem opens_na {H : Type} {enc : TypeId × Value → H} {W : World} : Opens enc Tryd.prog W 32 (RSlc RNa 9) :=
  have hd : Opens enc Tryd.prog W 35 RDg := opens_struct Tryd.underlying35 (by kernel_rfl) (OpensFs.cons (sz := 1) (total := 3) rfl (by kernel_rfl) (opens_int Tryd.underlying3) (OpensFs.cons (sz := 1) (total := 2) rfl (by kernel_rfl) (opens_int Tryd.underlying3) (OpensFs.cons (sz := 1) (total := 1) rfl (by kernel_rfl) (opens_str Tryd.underlying9) (OpensFs.one rfl (by kernel_rfl) (opens_bool Tryd.underlying4)))))
  opens_slice (sz := 9) Tryd.underlying32 (by kernel_rfl) (by decide) (opens_struct Tryd.underlying37 (by kernel_rfl) (OpensFs.cons (sz := 1) (total := 8) rfl (by kernel_rfl) (opens_int Tryd.underlying3) (OpensFs.cons (sz := 4) (total := 4) rfl (by kernel_rfl) hd (OpensFs.cons (sz := 1) (total := 3) rfl (by kernel_rfl) (opens_int Tryd.underlying3) (OpensFs.cons (sz := 1) (total := 2) rfl (by kernel_rfl) (opens_int Tryd.underlying3) (OpensFs.cons (sz := 1) (total := 1) rfl (by kernel_rfl) (opens_int Tryd.underlying5) (OpensFs.one rfl (by kernel_rfl) (opens_int Tryd.underlying28))))))))
def toNa (x : Int × (Int × Int × ByteArray × Bool) × Int × Int × Int × Int) : NAc := ⟨x.1, ⟨x.2.1.1, x.2.1.2.1, x.2.1.2.2.1, x.2.1.2.2.2⟩, x.2.2.1, x.2.2.2.1, x.2.2.2.2.1, x.2.2.2.2.2.toNat⟩
theorem RNa.na {w : World} {cs : List Value} {x} (h : RNa w cs x) : cs = naC (toNa x) ∧ (toNa x).Ok := by
  obtain ⟨k, ⟨sr, ds, da, to_⟩, i, at_, m, s⟩ := x
  obtain ⟨_, _, rfl, ⟨rfl, _⟩, _, _, rfl, ⟨_, _, rfl, ⟨rfl, _⟩, _, _, rfl, ⟨rfl, _⟩, _, _, rfl, ⟨rfl, hs⟩, rfl⟩, _, _, rfl, ⟨rfl, _⟩, _, _, rfl, ⟨rfl, _⟩, _, _, rfl, ⟨rfl, _⟩, rfl, f2⟩ := h
  have g2 := wf_u64_bounds f2
  simp only at g2
  refine ⟨?_, ?_, hs⟩
  · simp only [naC, toNa]
    rw [Int.toNat_of_nonneg g2.1]
    rfl
  · show s.toNat < _
    omega
theorem RSl.nas {w : World} {a : Option Addr} {n c : Nat} {l : List (Int × (Int × Int × ByteArray × Bool) × Int × Int × Int × Int)} (h : RSl RNa 9 w a n c l) : RdN w a n c (l.map toNa) ∧ ∀ v ∈ l.map toNa, v.Ok := by
  refine ⟨?_, ?_⟩
  · show Rd w 9 a n c ((l.map toNa).flatMap naC)
    rw [List.flatMap_map]
    exact h.flat (fun x => naC (toNa x)) (fun _ => rfl) (by decide) (fun w cs x hx => hx.na.1)
  · intro v hv
    obtain ⟨x, hx, rfl⟩ := List.mem_map.1 hv
    exact h.all (Q := fun x => (toNa x).Ok) (fun cs x hx => hx.na.2) x hx
def fewGo : Nat → Nat → List NAc → Bool
  | _, _, [] => true
  | i, n, x :: l => if 400 ≤ i ∨ 50000 < n + min x.d.data.size 50000 then false else fewGo (i + 1) (n + min x.d.data.size 50000) l
theorem fewGo_drop {l : List NAc} {k n : Nat} (h : k < l.length) : fewGo k n (l.drop k) = if 400 ≤ k ∨ 50000 < n + min l[k].d.data.size 50000 then false else fewGo (k + 1) (n + min l[k].d.data.size 50000) (l.drop (k + 1)) := by
  rw [List.drop_eq_getElem_cons h, fewGo]
set_option maxHeartbeats 1600000 in
set_option maxRecDepth 100000 in
theorem few_any (a : Option Addr) (cn c : Nat) (l : List NAc) (hl : ∀ y ∈ l, y.Ok) (w : World) (hr : RdN w a cn c l) :
    Calls Tryd.prog 14 #[.slice a cn c] w fun e w' => e = .returned (.bool (fewGo 0 0 l)) ∧ w = w' := by
  have hln := Lib.hid hr.len
  have hmx := Rd.le_max hr
  unfold maxLen at hmx
  go_enter Tryd.func14, Tryd.ntmps14
  go_wp2
  go_loop [3, 4] (fun s i => ∃ k n : Nat, k ≤ cn ∧ n ≤ 50000 ∧ i = .int .i64 k ∧ s = .int .i64 n ∧ Hid (fewGo 0 0 l = fewGo k n (l.drop k))) (fun _ i => cn - (intOf i).toNat)
  case atStart => exact ⟨0, 0, Nat.zero_le _, Nat.zero_le _, rfl, rfl, rfl⟩
  case round =>
    obtain ⟨k, n, hk, hn, rfl, rfl, HF⟩ := hrel
    by_cases hlt : k < cn
    · have hkl : k < l.length := by rw [hln.out]; exact hlt
      have hkI : (k : Int) < cn := by omega
      obtain ⟨bl, off, rfl, _⟩ := Rd.addr hr (by omega)
      obtain ⟨_, _, _, r3, _, _, _, _, _⟩ := RdN.at hr k hkl
      have HG := Lib.hid (HF.out.trans (fewGo_drop hkl))
      have hsz := (hl _ (List.getElem_mem hkl)).data
      unfold maxLen at hsz
      generalize l[k].d.data = S at *
      by_cases hs : S.size < 50000
      · have hsI : (S.size : Int) < 50000 := by omega
        have hmin : min S.size 50000 = S.size := Nat.min_eq_left (by omega)
        rw [hmin] at HG
        clear hmin
        by_cases h4 : 400 ≤ k
        · have h4I : (400 : Int) ≤ k := by omega
          have HE := Lib.hid (HG.out.trans (if_pos (.inl h4)))
          go_wp2
          go_ret
          exact ⟨ret_bool (by rw [HE.out]), rfl⟩
        · have h4I : ¬ (400 : Int) ≤ k := by omega
          by_cases h5 : 50000 < n + S.size
          · have h5I : (50000 : Int) < (n : Int) + S.size := by omega
            have HE := Lib.hid (HG.out.trans (if_pos (.inr h5)))
            go_wp2
            go_ret
            exact ⟨ret_bool (by rw [HE.out]), rfl⟩
          · have h5I : ¬ (50000 : Int) < (n : Int) + S.size := by omega
            have HE := Lib.hid (HG.out.trans (if_neg (by omega)))
            go_wp2
            go_round
            case rel => exact ⟨k + 1, n + S.size, by omega, by omega, by go_num, by go_num, HE⟩
            case measure => simp [intOf]; omega
      · have hsI : ¬ (S.size : Int) < 50000 := by omega
        have hmin : min S.size 50000 = 50000 := Nat.min_eq_right (by omega)
        rw [hmin] at HG
        clear hmin
        by_cases h4 : 400 ≤ k
        · have h4I : (400 : Int) ≤ k := by omega
          have HE := Lib.hid (HG.out.trans (if_pos (.inl h4)))
          by_cases hs2 : 50000 < S.size
          · have hs2I : (50000 : Int) < S.size := by omega
            go_wp2
            go_ret
            exact ⟨ret_bool (by rw [HE.out]), rfl⟩
          · have hs2I : ¬ (50000 : Int) < S.size := by omega
            go_wp2
            go_ret
            exact ⟨ret_bool (by rw [HE.out]), rfl⟩
        · have h4I : ¬ (400 : Int) ≤ k := by omega
          by_cases hn0 : n = 0
          · subst hn0
            have HE := Lib.hid (HG.out.trans (if_neg (by omega)))
            rw [Nat.zero_add] at HE
            by_cases hs2 : 50000 < S.size
            · have hs2I : (50000 : Int) < S.size := by omega
              clear hs hsI hsz hn
              go_wp2
              go_round
              case rel => exact ⟨k + 1, 50000, by omega, Nat.le_refl _, by go_num, rfl, HE⟩
              case measure => simp [intOf]; omega
            · have hs2I : ¬ (50000 : Int) < S.size := by omega
              have hse : (S.size : Int) = 50000 := by omega
              clear hs hsI hsz hn hs2 hs2I
              go_wp2
              go_round
              case rel => exact ⟨k + 1, 50000, by omega, Nat.le_refl _, by go_num, rfl, HE⟩
              case measure => simp [intOf]; omega
          · have h5B : decide ((50000 : Int) < (n : Int) + 50000) = true := decide_eq_true (by omega)
            have h5C : (0 : Int) < n := by omega
            have hnu : (n : Int) ≤ 50000 := by omega
            have HE := Lib.hid (HG.out.trans (if_pos (.inr (by omega))))
            by_cases hs2 : 50000 < S.size
            · have hs2I : (50000 : Int) < S.size := by omega
              clear hs hsI hsz hn hs2
              go_wp2
              go_ret
              exact ⟨ret_bool (by rw [HE.out]), rfl⟩
            · have hse : (S.size : Int) = 50000 := by omega
              clear hs hsI hsz hn hs2
              go_wp2
              go_ret
              exact ⟨ret_bool (by rw [HE.out]), rfl⟩
    · obtain rfl : k = cn := by omega
      have HE := Lib.hid (HF.out.trans (by rw [List.drop_of_length_le (by rw [hln.out]; exact Nat.le_refl _)]; rfl : _ = true))
      go_wp2
      go_ret
      exact ⟨ret_bool (by rw [HE.out]), rfl⟩
end Go.Proofs.YtmlkmonapnebiaaDoorR
