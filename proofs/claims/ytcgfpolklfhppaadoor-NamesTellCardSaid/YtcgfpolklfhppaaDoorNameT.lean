/- names: the reference's Names, Of -/
import Derived.Test.YtcgfpolklfhppaaDoorNameS
namespace Go.Proofs.YtcgfpolklfhppaaDoor
open Go.RowKit Go.Sort

theorem inc0_is {l : List It} {k : Nat} (h : k < l.length) : inc0 l k = l[k].inc := by unfold inc0; rw [List.getElem?_eq_getElem h]; rfl
theorem inc0_off {l : List It} {k : Nat} (h : ¬ k < l.length) : inc0 l k = 0 := by unfold inc0; rw [List.getElem?_eq_none (by omega)]; rfl
theorem inc0_lt {l : List It} (hw : ∀ x ∈ l, x.Wf) (k : Nat) : inc0 l k < 4294967296 := by
  by_cases h : k < l.length
  · rw [inc0_is h]; exact (hw _ (List.getElem_mem h)).i32
  · rw [inc0_off h]; decide
theorem shr_bit (st p : Nat) (hs : st < 18446744073709551616) : bits BinOp.and IntKind.u64 ((st : Int) / 2 ^ p) 1 = ((if st.testBit p = true then 1 else 0 : Nat) : Int) := by
  have e : ((st : Int) / 2 ^ p) = ((st / 2 ^ p : Nat) : Int) := by
    rw [Int.natCast_ediv, Int.natCast_pow]; rfl
  have hl : st / 2 ^ p < 18446744073709551616 := Nat.lt_of_le_of_lt (Nat.div_le_self _ _) hs
  rw [e, show (1 : Int) = ((1 : Nat) : Int) from rfl, bits_and_u64_nat _ _ hl (by decide), Nat.and_one_is_mod]
  congr 1
  rw [Nat.testBit_eq_decide_div_mod_eq]
  split
  · rename_i h; simpa using h
  · rename_i h; simp at h; omega
set_option maxHeartbeats 6400000 in
set_option maxRecDepth 100000 in
theorem rnames_any (n m : Nat) (hm : m < 18446744073709551616) (a : Option Addr) (cn c : Nat) (l : List It) (hw : ∀ x ∈ l, x.Wf) (sure : Bool) (w : World) (hr : RdI w a cn c l) :
    Calls Tryd.prog 15 #[.int .u64 n, .int .u64 m, .slice a cn c, .bool sure] w fun e w' => ∃ a' c', e = .returned (.slice a' (cardN m) c') ∧ RdM w' a' (cardN m) c' (namesN n m l sure) ∧ Below w.heap.size w w' := by
  have hl := Lib.hid (hr.len hw)
  have hmx := Rd.le_max hr
  unfold maxLen at hmx
  have hc64 := cardN_le m
  have hmlen := memN_len m
  have hst := stayN_lt n m l
  have HNN := Lib.hid (show namesN n m l sure = nameK m (stayN n m l) l sure (cardN m) from by rw [namesN, hmlen])
  have HS := Lib.hid (fun W (h : Below w.heap.size w W) => rstay_any n m hm a cn c l hw W (Rd.below hr h (Nat.le_refl _)))
  have hLs := Lib.hid (rlist_any m w hm)
  have hi32 := inc0_lt hw
  go_enter Tryd.func15, Tryd.ntmps15
  go_wp2_with fail
  refine hLs.out.mono ?_
  rintro e w1 ⟨v, rfl, hown, hb1⟩
  obtain ⟨la, lc, rfl, hrd⟩ := Rd.own hown
  clear hown hLs
  go_wp2_with fail
  refine (HS.out _ hb1).mono ?_
  rintro e w2 ⟨rfl, b2⟩
  have hb2 := belS hb1 b2
  have hrd2 : Rd w2 1 la (cardN m) lc ((memI m).map (Value.int .i64)) := Rd.below hrd b2 (Nat.le_refl _)
  have HL := Lib.hid (fun W (h : Below w2.heap.size w2 W) k (hk : k < cardN m) => show ∃ b o, la = some ⟨b, o, none⟩ ∧ W.cell? ⟨b, o + k, none⟩ = some (.int .i64 ((memN m).getD k 0 : Nat)) from by
    have h2 : Rd W 1 la (cardN m) lc ((memI m).map (Value.int .i64)) := Rd.below hrd2 h (Nat.le_refl _)
    obtain ⟨b, o, rfl, _⟩ := Rd.addr h2 (by omega)
    refine ⟨b, o, rfl, Rd.at h2 ?_⟩
    have hk' : k < (memI m).length := by rw [memI_len]; exact hk
    rw [List.getElem?_map, List.getElem?_eq_getElem hk', memI_at hk', memN_getD (by rw [hmlen]; exact hk)]
    rfl)
  have hp64 : ∀ k, k < cardN m → (memN m).getD k 0 < 64 := fun k hk => by
    rw [memN_getD (by rw [hmlen]; exact hk)]; exact memN_at (by rw [hmlen]; exact hk)
  clear hrd hrd2 HS b2 hb1
  generalize stayN n m l = st at *
  go_wp2
  go_loopw [11, 12] (fun o i wr => ∃ (k : Nat), k ≤ cardN m ∧ i = .int .i64 k ∧ wr.ownsRow w2.heap.size 30 2 o k ((nameK m st l sure k).flatMap nmF) ∧ Below w2.heap.size w2 wr) (fun _ i _ => cardN m - (intOf i).toNat)
  case atStart => exact ⟨0, Nat.zero_le _, rfl, World.ownsRow_nil _ _ _ _, Below.refl _ _⟩
  case round =>
    obtain ⟨k, hk, rfl, hown, hbr⟩ := hrel
    by_cases hlt : k < cardN m
    · as_aux_lemma =>
        have hkI : (k : Int) < cardN m := by omega
        obtain ⟨lb, lo, rfl, hLk⟩ := HL.out _ hbr k hlt
        have hpk := hp64 k hlt
        have hN := Lib.hid (show nameK m st l sure (k + 1) = nameK m st l sure k ++ [⟨(memN m).getD k 0, inc1 st sure ((memN m).getD k 0) (inc0 l k)⟩] from rfl)
        have hxl := hi32 k
        generalize (memN m).getD k 0 = p at *
        --GENMARK
        have hsb := shr_bit st p hst
        replace hN := hN.out
        by_cases hkc : k < cn
        · have hkcI : (k : Int) < cn := by omega
          have hkl : k < l.length := by rw [hl.out]; exact hkc
          have hrr : RdI wr a cn c l := Rd.below hr (belS hb2 hbr) (Nat.le_refl _)
          obtain ⟨b2, off2, rfl, _⟩ := Rd.addr hrr (by omega)
          have r2 := RdI.range hrr hw k hkl 2 _ (hw _ (List.getElem_mem hkl)).c2
          rw [← inc0_is hkl] at r2
          generalize inc0 l k = x at *
          clear hrr
          cases htb : st.testBit p with
          | false =>
            rw [htb] at hsb
            replace hsb : bits BinOp.and IntKind.u64 ((st : Int) / 2 ^ p) 1 = 0 := hsb
            cases sure with
            | false =>
              by_cases hroom : x < 4294967295
              · have hne : ¬ (x : Int) = 4294967295 := by omega
                have hw1 : ((x : Int) + 1) % 4294967296 = x + 1 := by omega
                rw [show inc1 st false p x = x + 1 from if_pos ⟨.inl rfl, hroom⟩] at hN
                replace hN := Lib.hid hN
                have o6 := hown.alloc (.cells #[.int .i64 p, .int .u32 ((x : Int) + 1)] 30)
                have b6 := hbr.alloc hbr.size (.cells #[.int .i64 p, .int .u32 ((x : Int) + 1)] 30)
                have hlv := Rd.blk1 (w := wr) (e := 30) (cs := [.int .i64 p, .int .u32 ((x : Int) + 1)]) rfl rfl
                go_wp2_with (refine wpList_append_rd Tryd.nmE rfl (.tmp 53) (.tmp 60) rfl o6 rfl hlv rfl (by intro u' hu; simp at hu; rcases hu with rfl | rfl <;> rfl) (by unfold maxLen; omega) (by omega) b6.size ?_; intro v' x' hown' hg'; have b7 := belG b6 hg' b6.size (fun g hg => (o6.lt g hg).1))
                go_roundw
                case rel => exact ⟨k + 1, by omega, by go_num, by rw [hN.out, List.flatMap_append]; simpa [nmF] using hown', b7⟩
                case measure => simp [intOf]; omega
              · obtain rfl : x = 4294967295 := by omega
                rw [show inc1 st false p 4294967295 = 4294967295 from if_neg (fun h => by have := h.2; omega)] at hN
                replace hN := Lib.hid hN
                have o6 := hown.alloc (.cells #[.int .i64 p, .int .u32 4294967295] 30)
                have b6 := hbr.alloc hbr.size (.cells #[.int .i64 p, .int .u32 4294967295] 30)
                have hlv := Rd.blk1 (w := wr) (e := 30) (cs := [.int .i64 p, .int .u32 4294967295]) rfl rfl
                go_wp2_with (refine wpList_append_rd Tryd.nmE rfl (.tmp 53) (.tmp 60) rfl o6 rfl hlv rfl (by intro u' hu; simp at hu; rcases hu with rfl | rfl <;> rfl) (by unfold maxLen; omega) (by omega) b6.size ?_; intro v' x' hown' hg'; have b7 := belG b6 hg' b6.size (fun g hg => (o6.lt g hg).1))
                go_roundw
                case rel => exact ⟨k + 1, by omega, by go_num, by rw [hN.out, List.flatMap_append]; simpa [nmF] using hown', b7⟩
                case measure => simp [intOf]; omega
            | true =>
              by_cases hroom : x < 4294967295
              · have hne : ¬ (x : Int) = 4294967295 := by omega
                have hw1 : ((x : Int) + 1) % 4294967296 = x + 1 := by omega
                rw [show inc1 st true p x = x + 1 from if_pos ⟨.inr htb, hroom⟩] at hN
                replace hN := Lib.hid hN
                have o6 := hown.alloc (.cells #[.int .i64 p, .int .u32 ((x : Int) + 1)] 30)
                have b6 := hbr.alloc hbr.size (.cells #[.int .i64 p, .int .u32 ((x : Int) + 1)] 30)
                have hlv := Rd.blk1 (w := wr) (e := 30) (cs := [.int .i64 p, .int .u32 ((x : Int) + 1)]) rfl rfl
                go_wp2_with (refine wpList_append_rd Tryd.nmE rfl (.tmp 53) (.tmp 60) rfl o6 rfl hlv rfl (by intro u' hu; simp at hu; rcases hu with rfl | rfl <;> rfl) (by unfold maxLen; omega) (by omega) b6.size ?_; intro v' x' hown' hg'; have b7 := belG b6 hg' b6.size (fun g hg => (o6.lt g hg).1))
                go_roundw
                case rel => exact ⟨k + 1, by omega, by go_num, by rw [hN.out, List.flatMap_append]; simpa [nmF] using hown', b7⟩
                case measure => simp [intOf]; omega
              · obtain rfl : x = 4294967295 := by omega
                rw [show inc1 st true p 4294967295 = 4294967295 from if_neg (fun h => by have := h.2; omega)] at hN
                replace hN := Lib.hid hN
                have o6 := hown.alloc (.cells #[.int .i64 p, .int .u32 4294967295] 30)
                have b6 := hbr.alloc hbr.size (.cells #[.int .i64 p, .int .u32 4294967295] 30)
                have hlv := Rd.blk1 (w := wr) (e := 30) (cs := [.int .i64 p, .int .u32 4294967295]) rfl rfl
                go_wp2_with (refine wpList_append_rd Tryd.nmE rfl (.tmp 53) (.tmp 60) rfl o6 rfl hlv rfl (by intro u' hu; simp at hu; rcases hu with rfl | rfl <;> rfl) (by unfold maxLen; omega) (by omega) b6.size ?_; intro v' x' hown' hg'; have b7 := belG b6 hg' b6.size (fun g hg => (o6.lt g hg).1))
                go_roundw
                case rel => exact ⟨k + 1, by omega, by go_num, by rw [hN.out, List.flatMap_append]; simpa [nmF] using hown', b7⟩
                case measure => simp [intOf]; omega
          | true =>
            rw [htb] at hsb
            replace hsb : bits BinOp.and IntKind.u64 ((st : Int) / 2 ^ p) 1 = 1 := hsb
            cases sure with
            | false =>
              by_cases hroom : x < 4294967295
              · have hne : ¬ (x : Int) = 4294967295 := by omega
                have hw1 : ((x : Int) + 1) % 4294967296 = x + 1 := by omega
                rw [show inc1 st false p x = x + 1 from if_pos ⟨.inl rfl, hroom⟩] at hN
                replace hN := Lib.hid hN
                have o6 := hown.alloc (.cells #[.int .i64 p, .int .u32 ((x : Int) + 1)] 30)
                have b6 := hbr.alloc hbr.size (.cells #[.int .i64 p, .int .u32 ((x : Int) + 1)] 30)
                have hlv := Rd.blk1 (w := wr) (e := 30) (cs := [.int .i64 p, .int .u32 ((x : Int) + 1)]) rfl rfl
                go_wp2_with (refine wpList_append_rd Tryd.nmE rfl (.tmp 53) (.tmp 60) rfl o6 rfl hlv rfl (by intro u' hu; simp at hu; rcases hu with rfl | rfl <;> rfl) (by unfold maxLen; omega) (by omega) b6.size ?_; intro v' x' hown' hg'; have b7 := belG b6 hg' b6.size (fun g hg => (o6.lt g hg).1))
                go_roundw
                case rel => exact ⟨k + 1, by omega, by go_num, by rw [hN.out, List.flatMap_append]; simpa [nmF] using hown', b7⟩
                case measure => simp [intOf]; omega
              · obtain rfl : x = 4294967295 := by omega
                rw [show inc1 st false p 4294967295 = 4294967295 from if_neg (fun h => by have := h.2; omega)] at hN
                replace hN := Lib.hid hN
                have o6 := hown.alloc (.cells #[.int .i64 p, .int .u32 4294967295] 30)
                have b6 := hbr.alloc hbr.size (.cells #[.int .i64 p, .int .u32 4294967295] 30)
                have hlv := Rd.blk1 (w := wr) (e := 30) (cs := [.int .i64 p, .int .u32 4294967295]) rfl rfl
                go_wp2_with (refine wpList_append_rd Tryd.nmE rfl (.tmp 53) (.tmp 60) rfl o6 rfl hlv rfl (by intro u' hu; simp at hu; rcases hu with rfl | rfl <;> rfl) (by unfold maxLen; omega) (by omega) b6.size ?_; intro v' x' hown' hg'; have b7 := belG b6 hg' b6.size (fun g hg => (o6.lt g hg).1))
                go_roundw
                case rel => exact ⟨k + 1, by omega, by go_num, by rw [hN.out, List.flatMap_append]; simpa [nmF] using hown', b7⟩
                case measure => simp [intOf]; omega
            | true =>
              by_cases hroom : x < 4294967295
              · have hne : ¬ (x : Int) = 4294967295 := by omega
                have hw1 : ((x : Int) + 1) % 4294967296 = x + 1 := by omega
                rw [show inc1 st true p x = x from if_neg (fun h => by rcases h.1 with h | h; cases h; rw [htb] at h; cases h)] at hN
                replace hN := Lib.hid hN
                have o6 := hown.alloc (.cells #[.int .i64 p, .int .u32 (x : Int)] 30)
                have b6 := hbr.alloc hbr.size (.cells #[.int .i64 p, .int .u32 (x : Int)] 30)
                have hlv := Rd.blk1 (w := wr) (e := 30) (cs := [.int .i64 p, .int .u32 (x : Int)]) rfl rfl
                go_wp2_with (refine wpList_append_rd Tryd.nmE rfl (.tmp 53) (.tmp 60) rfl o6 rfl hlv rfl (by intro u' hu; simp at hu; rcases hu with rfl | rfl <;> rfl) (by unfold maxLen; omega) (by omega) b6.size ?_; intro v' x' hown' hg'; have b7 := belG b6 hg' b6.size (fun g hg => (o6.lt g hg).1))
                go_roundw
                case rel => exact ⟨k + 1, by omega, by go_num, by rw [hN.out, List.flatMap_append]; simpa [nmF] using hown', b7⟩
                case measure => simp [intOf]; omega
              · obtain rfl : x = 4294967295 := by omega
                rw [show inc1 st true p 4294967295 = 4294967295 from if_neg (fun h => by have := h.2; omega)] at hN
                replace hN := Lib.hid hN
                have o6 := hown.alloc (.cells #[.int .i64 p, .int .u32 4294967295] 30)
                have b6 := hbr.alloc hbr.size (.cells #[.int .i64 p, .int .u32 4294967295] 30)
                have hlv := Rd.blk1 (w := wr) (e := 30) (cs := [.int .i64 p, .int .u32 4294967295]) rfl rfl
                go_wp2_with (refine wpList_append_rd Tryd.nmE rfl (.tmp 53) (.tmp 60) rfl o6 rfl hlv rfl (by intro u' hu; simp at hu; rcases hu with rfl | rfl <;> rfl) (by unfold maxLen; omega) (by omega) b6.size ?_; intro v' x' hown' hg'; have b7 := belG b6 hg' b6.size (fun g hg => (o6.lt g hg).1))
                go_roundw
                case rel => exact ⟨k + 1, by omega, by go_num, by rw [hN.out, List.flatMap_append]; simpa [nmF] using hown', b7⟩
                case measure => simp [intOf]; omega
        · have hkcI : ¬ (k : Int) < cn := by omega
          rw [inc0_off (show ¬ k < l.length by rw [hl.out]; exact hkc)] at hN
          cases htb : st.testBit p with
          | false =>
            rw [htb] at hsb
            replace hsb : bits BinOp.and IntKind.u64 ((st : Int) / 2 ^ p) 1 = 0 := hsb
            cases sure with
            | false =>
              rw [show inc1 st false p 0 = 1 from if_pos ⟨.inl rfl, by decide⟩] at hN
              replace hN := Lib.hid hN
              have o6 := hown.alloc (.cells #[.int .i64 p, .int .u32 1] 30)
              have b6 := hbr.alloc hbr.size (.cells #[.int .i64 p, .int .u32 1] 30)
              have hlv := Rd.blk1 (w := wr) (e := 30) (cs := [.int .i64 p, .int .u32 1]) rfl rfl
              go_wp2_with (refine wpList_append_rd Tryd.nmE rfl (.tmp 53) (.tmp 60) rfl o6 rfl hlv rfl (by intro u' hu; simp at hu; rcases hu with rfl | rfl <;> rfl) (by unfold maxLen; omega) (by omega) b6.size ?_; intro v' x' hown' hg'; have b7 := belG b6 hg' b6.size (fun g hg => (o6.lt g hg).1))
              go_roundw
              case rel => exact ⟨k + 1, by omega, by go_num, by rw [hN.out, List.flatMap_append]; simpa [nmF] using hown', b7⟩
              case measure => simp [intOf]; omega
            | true =>
              rw [show inc1 st true p 0 = 1 from if_pos ⟨.inr htb, by decide⟩] at hN
              replace hN := Lib.hid hN
              have o6 := hown.alloc (.cells #[.int .i64 p, .int .u32 1] 30)
              have b6 := hbr.alloc hbr.size (.cells #[.int .i64 p, .int .u32 1] 30)
              have hlv := Rd.blk1 (w := wr) (e := 30) (cs := [.int .i64 p, .int .u32 1]) rfl rfl
              go_wp2_with (refine wpList_append_rd Tryd.nmE rfl (.tmp 53) (.tmp 60) rfl o6 rfl hlv rfl (by intro u' hu; simp at hu; rcases hu with rfl | rfl <;> rfl) (by unfold maxLen; omega) (by omega) b6.size ?_; intro v' x' hown' hg'; have b7 := belG b6 hg' b6.size (fun g hg => (o6.lt g hg).1))
              go_roundw
              case rel => exact ⟨k + 1, by omega, by go_num, by rw [hN.out, List.flatMap_append]; simpa [nmF] using hown', b7⟩
              case measure => simp [intOf]; omega
          | true =>
            rw [htb] at hsb
            replace hsb : bits BinOp.and IntKind.u64 ((st : Int) / 2 ^ p) 1 = 1 := hsb
            cases sure with
            | false =>
              rw [show inc1 st false p 0 = 1 from if_pos ⟨.inl rfl, by decide⟩] at hN
              replace hN := Lib.hid hN
              have o6 := hown.alloc (.cells #[.int .i64 p, .int .u32 1] 30)
              have b6 := hbr.alloc hbr.size (.cells #[.int .i64 p, .int .u32 1] 30)
              have hlv := Rd.blk1 (w := wr) (e := 30) (cs := [.int .i64 p, .int .u32 1]) rfl rfl
              go_wp2_with (refine wpList_append_rd Tryd.nmE rfl (.tmp 53) (.tmp 60) rfl o6 rfl hlv rfl (by intro u' hu; simp at hu; rcases hu with rfl | rfl <;> rfl) (by unfold maxLen; omega) (by omega) b6.size ?_; intro v' x' hown' hg'; have b7 := belG b6 hg' b6.size (fun g hg => (o6.lt g hg).1))
              go_roundw
              case rel => exact ⟨k + 1, by omega, by go_num, by rw [hN.out, List.flatMap_append]; simpa [nmF] using hown', b7⟩
              case measure => simp [intOf]; omega
            | true =>
              rw [show inc1 st true p 0 = 0 from if_neg (fun h => by rcases h.1 with h | h; cases h; rw [htb] at h; cases h)] at hN
              replace hN := Lib.hid hN
              have o6 := hown.alloc (.cells #[.int .i64 p, .int .u32 0] 30)
              have b6 := hbr.alloc hbr.size (.cells #[.int .i64 p, .int .u32 0] 30)
              have hlv := Rd.blk1 (w := wr) (e := 30) (cs := [.int .i64 p, .int .u32 0]) rfl rfl
              go_wp2_with (refine wpList_append_rd Tryd.nmE rfl (.tmp 53) (.tmp 60) rfl o6 rfl hlv rfl (by intro u' hu; simp at hu; rcases hu with rfl | rfl <;> rfl) (by unfold maxLen; omega) (by omega) b6.size ?_; intro v' x' hown' hg'; have b7 := belG b6 hg' b6.size (fun g hg => (o6.lt g hg).1))
              go_roundw
              case rel => exact ⟨k + 1, by omega, by go_num, by rw [hN.out, List.flatMap_append]; simpa [nmF] using hown', b7⟩
              case measure => simp [intOf]; omega
    · obtain rfl : k = cardN m := by omega
      obtain ⟨a', c', rfl, hrd⟩ := Rd.own hown
      go_wp2
      go_ret
      exact ⟨a', c', rfl, by rw [HNN.out]; exact hrd, belS hb2 hbr⟩
end Go.Proofs.YtcgfpolklfhppaaDoor
