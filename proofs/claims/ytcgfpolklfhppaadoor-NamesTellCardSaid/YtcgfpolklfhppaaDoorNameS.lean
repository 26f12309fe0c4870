/- names: the reference's Stay -/
import Derived.Test.YtcgfpolklfhppaaDoorNameR
namespace Go.Proofs.YtcgfpolklfhppaaDoor
open Go.RowKit Go.Sort

/-- The bit of the first of the first k places that holds. -/
def firstK (m n : Nat) (l : List It) : Nat → Nat
  | 0 => 0
  | k + 1 => if firstK m n l k = 0 then (if hdB n l k = true then bitN ((memN m).getD k 0) else 0) else firstK m n l k
theorem firstK_lt (m n : Nat) (l : List It) (k : Nat) : firstK m n l k < 18446744073709551616 := by
  induction k with
  | zero => exact Nat.zero_lt_succ _
  | succ k ih =>
    rw [firstK]
    split
    · split
      · exact bitN_lt _
      · exact Nat.zero_lt_succ _
    · exact ih
theorem firstK_stop {m n : Nat} {l : List It} {k : Nat} (h : firstK m n l k ≠ 0) : ∀ j, k ≤ j → firstK m n l j = firstK m n l k := by
  intro j hj
  obtain ⟨d, rfl⟩ : ∃ d, j = k + d := ⟨j - k, by omega⟩
  clear hj
  induction d with
  | zero => rfl
  | succ d ih => rw [show k + (d + 1) = k + d + 1 from rfl, firstK, ih, if_neg h]
theorem bitN_ne {p : Nat} (h : p < 64) : bitN (p : Int) ≠ 0 := by
  intro e
  have := bitN_nat p p h
  rw [e, Nat.zero_testBit] at this
  simp at this
theorem memN_getD {m k : Nat} (h : k < (memN m).length) : (memN m).getD k 0 = (memN m)[k] := by rw [List.getD_eq_getElem?_getD, List.getElem?_eq_getElem h]; rfl
theorem firstK_at (m n : Nat) (l : List It) (i : Nat) (hi : i < (memN m).length) (h0 : ∀ j, j < i → hdB n l j = false) (h1 : hdB n l i = true) : firstK m n l (i + 1) = bitN ((memN m)[i] : Nat) := by
  have hz : ∀ j, j ≤ i → firstK m n l j = 0 := by
    intro j
    induction j with
    | zero => intro _; rfl
    | succ j ih => intro hj; rw [firstK, ih (by omega), if_pos rfl, h0 j (by omega)]; rfl
  rw [firstK, hz i (Nat.le_refl _), if_pos rfl, if_pos h1, memN_getD hi]
theorem firstK_none (m n : Nat) (l : List It) (K : Nat) (h0 : ∀ j, j < K → hdB n l j = false) : firstK m n l K = 0 := by
  induction K with
  | zero => rfl
  | succ K ih => rw [firstK, ih (fun j hj => h0 j (by omega)), if_pos rfl, h0 K (by omega)]; rfl
theorem memN_lt_of {m i j : Nat} (hi : i < (memN m).length) (hj : j < (memN m).length) (h : j < i) : (memN m)[j] < (memN m)[i] := by
  have hs : (memN m).Pairwise (· < ·) := List.Pairwise.filter _ List.pairwise_lt_range
  exact List.pairwise_iff_getElem.1 hs j i hj hi h
/-- The first that holds is the least of those that hold. -/
theorem firstK_eq (m n : Nat) (l : List It) : firstK m n l (memN m).length = bitN (minI (thoseN m l (It.hold n))) := by
  have hb : ∀ i (hi : i < (memN m).length), (thoseN m l (It.hold n)).testBit (memN m)[i] = hdB n l i := fun i hi => thoseN_bit m l (It.hold n) i hi
  by_cases hz : thoseN m l (It.hold n) = 0
  · rw [minI, if_pos hz, firstK_none m n l _ (fun j hj => by rw [← hb j hj, hz, Nat.zero_testBit])]
    decide
  · obtain ⟨c1, c2, c3, _⟩ := low_split (thoseN_lt m l (It.hold n)) hz
    rw [minI, if_neg hz]
    obtain ⟨i, hi, hg⟩ := List.mem_iff_getElem.1 (memN_mem.2 ⟨c1, thoseN_sub m l _ _ c2⟩)
    have h1 : hdB n l i = true := by rw [← hb i hi, hg]; exact c2
    have h0 : ∀ j, j < i → hdB n l j = false := fun j hj => by
      have hjl : j < (memN m).length := by omega
      rw [← hb j hjl]
      exact c3 _ (by rw [← hg]; exact memN_lt_of hi hjl hj)
    have e := firstK_at m n l i hi h0 h1
    rw [firstK_stop (k := i + 1) (by rw [e, hg]; exact bitN_ne c1) _ (by omega), e, hg]
theorem wrap_shl {p : Nat} (h : p < 64) : IntKind.u64.wrap ((2 : Int) ^ p) = (bitN (p : Int) : Nat) := by
  have hb : bitN (p : Int) = 2 ^ p := by rw [bitN, if_pos (by omega), Int.toNat_natCast]
  have hl := bitN_lt (p : Int)
  rw [hb] at hl ⊢
  have e : ((2 ^ p : Nat) : Int) = (2 : Int) ^ p := Int.natCast_pow 2 p
  rw [IntKind.wrap_u64, ← e]
  omega
theorem hdB_dir (n : Nat) (l : List It) (k : Nat) (h : k < l.length) : (l[k]?.map (dirQ n)).getD false = (hdB n l k && l[k].direct) := by
  unfold hdB
  rw [List.getElem?_eq_getElem h]; rfl
theorem hdB_dir0 (n : Nat) (l : List It) (k : Nat) (h : hdB n l k = false) : (l[k]?.map (dirQ n)).getD false = false := by
  unfold hdB at h
  cases e : l[k]? with
  | none => rfl
  | some x =>
    rw [e] at h
    have h' : x.hold n = false := h
    show dirQ n x = false
    unfold dirQ; rw [h']; rfl
theorem hdB_lt {n : Nat} {l : List It} {k : Nat} (h : hdB n l k = true) : k < l.length := by
  by_cases hk : k < l.length
  · exact hk
  · rw [holdsB_len n l k hk] at h; cases h
set_option maxHeartbeats 6400000 in
set_option maxRecDepth 100000 in
theorem rstay_any (n m : Nat) (hm : m < 18446744073709551616) (a : Option Addr) (cn c : Nat) (l : List It) (hw : ∀ x ∈ l, x.Wf) (w : World) (hr : RdI w a cn c l) :
    Calls Tryd.prog 10 #[.int .u64 n, .int .u64 m, .slice a cn c] w fun e w' => e = .returned (.int .u64 (stayN n m l)) ∧ Below w.heap.size w w' := by
  have hl := Lib.hid (hr.len hw)
  have hmx := Rd.le_max hr
  unfold maxLen at hmx
  have hc64 := cardN_le m
  have hmlen := memN_len m
  have HST := Lib.hid (show stayN n m l = if thoseK m l (dirQ n) (cardN m) = 0 then firstK m n l (cardN m) else thoseK m l (dirQ n) (cardN m) from by
    have e := firstK_eq m n l
    rw [hmlen] at e
    rw [e, ← hmlen]; rfl)
  have HH := Lib.hid (fun W k (h : Below w.heap.size w W) => rholds_any n a cn c l hw k W (Rd.below hr h (Nat.le_refl _)))
  have hLs := Lib.hid (rlist_any m w hm)
  go_enter Tryd.func10, Tryd.ntmps10
  go_wp2_with fail
  refine hLs.out.mono ?_
  rintro e w1 ⟨v, rfl, hown, hb1⟩
  obtain ⟨la, lc, rfl, hrd⟩ := Rd.own hown
  clear hown hLs
  have HL := Lib.hid (fun W (h : Below w1.heap.size w1 W) k (hk : k < cardN m) => show ∃ b o, la = some ⟨b, o, none⟩ ∧ W.cell? ⟨b, o + k, none⟩ = some (.int .i64 ((memN m).getD k 0 : Nat)) from by
    have h2 : Rd W 1 la (cardN m) lc ((memI m).map (Value.int .i64)) := Rd.below hrd h (Nat.le_refl _)
    obtain ⟨b, o, rfl, _⟩ := Rd.addr h2 (by omega)
    refine ⟨b, o, rfl, Rd.at h2 ?_⟩
    have hk' : k < (memI m).length := by rw [memI_len]; exact hk
    rw [List.getElem?_map, List.getElem?_eq_getElem hk', memI_at hk', memN_getD (by rw [hmlen]; exact hk)]
    rfl)
  have hp64 : ∀ k, k < cardN m → (memN m).getD k 0 < 64 := fun k hk => by
    rw [memN_getD (by rw [hmlen]; exact hk)]; exact memN_at (by rw [hmlen]; exact hk)
  have hlt1 := fun k => thoseK_lt m l (dirQ n) k
  have hlt2 := fun k => firstK_lt m n l k
  clear hrd
  go_wp2
  go_loopw [8, 9] (fun sv i wr => ∃ (k : Nat), k ≤ cardN m ∧ i = .int .i64 k ∧ sv = .int .u64 (thoseK m l (dirQ n) k : Nat) ∧ Below w1.heap.size w1 wr) (fun _ i _ => cardN m - (intOf i).toNat)
  case atStart => exact ⟨0, Nat.zero_le _, rfl, rfl, Below.refl _ _⟩
  case round =>
    obtain ⟨k, hk, rfl, rfl, hbr⟩ := hrel
    by_cases hlt : k < cardN m
    · as_aux_lemma =>
        have hkI : (k : Int) < cardN m := by omega
        have hTk := Lib.hid (show thoseK m l (dirQ n) (k + 1) = if (l[k]?.map (dirQ n)).getD false = true then thoseK m l (dirQ n) k ||| bitN ((memN m).getD k 0 : Nat) else thoseK m l (dirQ n) k from rfl)
        have hH := Lib.hid (HH.out wr k (belS hb1 hbr))
        have hlk := hlt1 k
        have hDD := Lib.hid (hdB_dir n l k)
        have hD0 := Lib.hid (hdB_dir0 n l k)
        have hDL := Lib.hid (fun h => hdB_lt (n := n) (l := l) (k := k) h)
        generalize (l[k]?.map (dirQ n)).getD false = dq at *
        generalize thoseK m l (dirQ n) k = z at *
        generalize hdB n l k = hd at *
        cases hd with
        | false =>
          have hdf := Lib.hid (hD0.out rfl)
          rw [hdf.out] at hTk
          clear hDD hDL
          go_wp2_with fail
          refine hH.out.mono ?_
          rintro e w' ⟨rfl, rfl⟩
          go_wp2
          go_roundw
          case rel => exact ⟨k + 1, by omega, by go_num, by rw [hTk.out]; rfl, hbr⟩
          case measure => simp [intOf]; omega
        | true =>
          have hkl := hDL.out rfl
          have hdd := hDD.out hkl
          rw [Bool.true_and] at hdd
          have hkc : k < cn := by rw [← hl.out]; exact hkl
          have hkcI : (k : Int) < cn := by omega
          have hrr : RdI wr a cn c l := Rd.below hr (belS hb1 hbr) (Nat.le_refl _)
          obtain ⟨b2, off2, rfl, _⟩ := Rd.addr hrr (by omega)
          have r5 := RdI.range hrr hw k hkl 5 _ (hw _ (List.getElem_mem hkl)).c5
          rw [← hdd] at r5
          clear hdd hDD hDL hD0 hrr
          cases dq with
          | false =>
            go_wp2_with fail
            refine hH.out.mono ?_
            rintro e w' ⟨rfl, rfl⟩
            go_wp2
            go_roundw
            case rel => exact ⟨k + 1, by omega, by go_num, by rw [hTk.out]; rfl, hbr⟩
            case measure => simp [intOf]; omega
          | true =>
            obtain ⟨lb, lo, rfl, hLk⟩ := HL.out _ hbr k hlt
            have hpk := hp64 k hlt
            generalize (memN m).getD k 0 = p at *
            go_wp2_with fail
            refine hH.out.mono ?_
            rintro e w' ⟨rfl, rfl⟩
            go_wp2
            go_roundw
            case rel => exact ⟨k + 1, by omega, by go_num, by rw [hTk.out, wrap_shl hpk, bits_or_u64_nat _ _ hlk (bitN_lt _)]; rfl, hbr⟩
            case measure => simp [intOf]; omega
    · obtain rfl : k = cardN m := by omega
      have hkI : ¬ ((cardN m : Nat) : Int) < cardN m := by omega
      generalize hM : cardN m = M at *
      have hzl := hlt1 M
      by_cases hz : thoseK m l (dirQ n) M = 0
      · have HS2 := Lib.hid (HST.out.trans (if_pos hz))
        rw [hz]
        clear HST hz hzl
        have hbr0 := hbr
        go_wp2
        go_loopw [8, 10] (fun sv i wx => ∃ (k : Nat), k ≤ M ∧ i = .int .i64 k ∧ sv = .int .u64 (firstK m n l k : Nat) ∧ Below w1.heap.size w1 wx) (fun _ i _ => M - (intOf i).toNat)
        case atStart => exact ⟨0, Nat.zero_le _, rfl, rfl, hbr0⟩
        case round =>
          clear hbr hbr0
          obtain ⟨k, hk, rfl, rfl, hbr⟩ := hrel
          by_cases hlt : k < M ∧ firstK m n l k = 0
          · as_aux_lemma =>
              obtain ⟨hlt, h0⟩ := hlt
              have hkI : (k : Int) < M := by omega
              have hF := Lib.hid (show firstK m n l (k + 1) = if hdB n l k = true then bitN ((memN m).getD k 0 : Nat) else 0 from by rw [firstK, if_pos h0])
              have hH := Lib.hid (HH.out wr k (belS hb1 hbr))
              rw [h0]
              clear h0
              generalize hdB n l k = hd at *
              cases hd with
              | false =>
                go_wp2_with fail
                refine hH.out.mono ?_
                rintro e w' ⟨rfl, rfl⟩
                go_wp2
                go_roundw
                case rel => exact ⟨k + 1, by omega, by go_num, by rw [hF.out]; rfl, hbr⟩
                case measure => simp [intOf]; omega
              | true =>
                obtain ⟨lb, lo, rfl, hLk⟩ := HL.out _ hbr k hlt
                have hpk := hp64 k hlt
                generalize (memN m).getD k 0 = p at *
                go_wp2_with fail
                refine hH.out.mono ?_
                rintro e w' ⟨rfl, rfl⟩
                go_wp2
                go_roundw
                case rel => exact ⟨k + 1, by omega, by go_num, by rw [hF.out, wrap_shl hpk]; rfl, hbr⟩
                case measure => simp [intOf]; omega
          · have hx : (M : Int) ≤ k ∨ (k : Int) < M ∧ ¬ firstK m n l k = 0 := by omega
            have HE' : firstK m n l k = stayN n m l := by
              rw [HS2.out]
              rcases hx with hx | hx
              · rw [show k = M from by omega]
              · exact (firstK_stop hx.2 M (by omega)).symm
            have HE := Lib.hid HE'
            clear HE'
            have hzk := hlt2 k
            generalize firstK m n l k = z at *
            rcases hx with hx | ⟨hx, hx2⟩
            · go_wp2
              go_ret
              exact ⟨ret_int (by rw [HE.out]), belS hb1 hbr⟩
            · have hx2I : ¬ (z : Int) = 0 := by omega
              go_wp2
              go_ret
              exact ⟨ret_int (by rw [HE.out]), belS hb1 hbr⟩
      · have HS2 := Lib.hid (HST.out.trans (if_neg hz))
        generalize thoseK m l (dirQ n) M = z at *
        have hzI : ¬ (z : Int) = 0 := by omega
        clear HST
        have hM0 : (M : Int) ≤ 0 ∨ (0 : Int) < M := by omega
        have hbr0 := hbr
        go_wp2
        go_loopw [8, 10] (fun sv i wx => sv = .int .u64 z ∧ i = .int .i64 0 ∧ Below w1.heap.size w1 wx) (fun _ _ _ => 0)
        case atStart => exact ⟨rfl, rfl, hbr0⟩
        case round =>
          clear hbr hbr0
          obtain ⟨rfl, rfl, hbr⟩ := hrel
          rcases hM0 with hM0 | hM0
          all_goals
            go_wp2
            go_ret
            exact ⟨ret_int (by rw [HS2.out]), belS hb1 hbr⟩
end Go.Proofs.YtcgfpolklfhppaaDoor
