/- the walk of Names -/
import Derived.Test.YtcgfpolklfhppaaDoorNameC
namespace Go.Proofs.YtcgfpolklfhppaaDoor
open Go.RowKit Go.Sort

structure Nm where
  proc : Int
  inc : Nat
def nmF (x : Nm) : List Value := [.int .i64 x.proc, .int .u32 x.inc]
theorem Tryd.nmE : Elt Tryd.prog 24 30 (.agg #[.int .i64 0, .int .u32 0]) 2 16 := ⟨by kernel_rfl, by kernel_rfl, rfl, by decide⟩
def inc0 (l : List It) (k : Nat) : Nat := (l[k]?.map (·.inc)).getD 0
def inc1 (st : Nat) (sure : Bool) (p x : Nat) : Nat := if (sure = false ∨ st.testBit p = false) ∧ x < 4294967295 then x + 1 else x
def nameK (m st : Nat) (l : List It) (sure : Bool) : Nat → List Nm
  | 0 => []
  | k + 1 => nameK m st l sure k ++ [⟨(memN m).getD k 0, inc1 st sure ((memN m).getD k 0) (inc0 l k)⟩]
theorem nameK_len (m st : Nat) (l : List It) (sure : Bool) (k : Nat) : (nameK m st l sure k).length = k := by
  induction k with
  | zero => rfl
  | succ k ih => rw [nameK, List.length_append, ih]; rfl
def namesN (n m : Nat) (l : List It) (sure : Bool) : List Nm := nameK m (stayN n m l) l sure (memN m).length
theorem Rd.blk1 {w : World} {e : TypeId} {cs : List Value} {sz b : Nat} (hb : b = w.heap.size) (hs : cs.length = sz) : Rd (w.alloc (.cells cs.toArray e)) sz (some ⟨b, 0, none⟩) 1 1 cs := by
  subst hb
  refine ⟨⟨by omega, Nat.le_refl _, by decide, fun h => by cases h⟩, .inr ⟨_, 0, rfl, by simp, fun j u' hu => ?_⟩⟩
  rw [World.cell?_alloc_at _ _ _ _ rfl]
  simpa using hu
set_option maxHeartbeats 3200000 in
set_option maxRecDepth 100000 in
theorem names_any (n m : Nat) (hm : m < 18446744073709551616) (a : Option Addr) (cn c : Nat) (l : List It) (hw : ∀ x ∈ l, x.Wf) (sure : Bool) (w : World) (hr : RdI w a cn c l) (hT : Tab w) :
    Calls Tryd.prog 14 #[.int .u64 n, .int .u64 m, .slice a cn c, .bool sure] w fun e w' => ∃ v, e = .returned v ∧ w'.ownsRow w.heap.size 30 2 v (cardN m) ((namesN n m l sure).flatMap nmF) ∧ Below w.heap.size w w' := by
  have hl := Lib.hid (hr.len hw)
  have hmx := Rd.le_max hr
  unfold maxLen at hmx
  have hc64 := cardN_le m
  have hmlen := memN_len m
  have HS := Lib.hid (stay_any n m hm a cn c l hw w hr hT)
  have hst := stayN_lt n m l
  have HNN := Lib.hid (show namesN n m l sure = nameK m (stayN n m l) l sure (cardN m) from by rw [namesN, hmlen])
  generalize stayN n m l = st at *
  go_enter Tryd.func14, Tryd.ntmps14
  go_wp2_with fail
  refine HS.out.mono ?_
  rintro e w1 ⟨rfl, hb1⟩
  have hT1 := hT.below hb1 hT.1
  go_wp2_with fail
  refine (list_any m _ hm hT1).mono ?_
  rintro e w2 ⟨v, rfl, hown2, hb2⟩
  obtain ⟨ma, mc, rfl, hrm⟩ := Rd.own hown2
  have hln := hrm.intLen
  have hbw := belS hb1 hb2
  have hr2 : RdI w2 a cn c l := Rd.below hr hbw (Nat.le_refl _)
  clear hown2 hr hT hT1 hb1 hb2 HS
  go_wp2
  go_loopw [9, 21] (fun o i wr => ∃ k : Nat, k ≤ cardN m ∧ i = .int .i64 k ∧ wr.ownsRow w2.heap.size 30 2 o k ((nameK m st l sure k).flatMap nmF) ∧ Below w2.heap.size w2 wr) (fun _ i _ => cardN m - (intOf i).toNat)
  case atStart => exact ⟨0, Nat.zero_le _, rfl, World.ownsRow_nil _ _ _ _, Below.refl _ _⟩
  case round =>
    obtain ⟨k, hk, rfl, hown, hbr⟩ := hrel
    by_cases hlt : k < cardN m
    · have hkl : k < (memI m).length := by rw [hln]; exact hlt
      have hkn : k < (memN m).length := by rw [hmlen]; exact hlt
      have hkI : (k : Int) < cardN m := by omega
      have hrr := Rd.below hrm hbr (Nat.le_refl _)
      obtain ⟨bl, off, rfl, _⟩ := hrr.addr (by omega)
      have hc := hrr.at (j := k) (u := .int .i64 ((memN m)[k] : Nat)) (by rw [List.getElem?_map, List.getElem?_eq_getElem hkl, memI_at]; rfl)
      have hp := memN_at hkn
      have hgd : (memN m).getD k 0 = (memN m)[k] := by rw [List.getD_eq_getElem?_getD, List.getElem?_eq_getElem hkn]; rfl
      have hNS := Lib.hid (show nameK m st l sure (k + 1) = nameK m st l sure k ++ [⟨(memN m)[k], inc1 st sure (memN m)[k] (inc0 l k)⟩] from by rw [nameK, hgd])
      clear hgd
      generalize (memN m)[k] = p at *
      have hpI : (p : Int) < 64 := by omega
      have HH0 := fun W => has_any st p hst W
      rw [hasB_eq, decide_eq_true (by omega), Bool.true_and, Int.toNat_natCast] at HH0
      have hksz := hbr.size
      generalize hstb : st.testBit p = sb at *
      replace HH0 := Lib.hid HH0
      have HH := HH0
      have hI1 := Lib.hid (fun x => show inc1 st sure p x = if (sure = false ∨ sb = false) ∧ x < 4294967295 then x + 1 else x from by rw [inc1, hstb])
      clear hstb
      by_cases hlt2 : k < cn
      · have hkl2 : k < l.length := by rw [hl.out]; exact hlt2
        have hkI2 : (k : Int) < cn := by omega
        obtain ⟨b2, off2, rfl, _⟩ := Rd.addr (Rd.below hr2 hbr (Nat.le_refl _)) (by omega)
        have hR := RdI.range (show RdI wr (some ⟨b2, off2, none⟩) cn c l from Rd.below hr2 hbr (Nat.le_refl _)) hw k hkl2
        have hxw := hw _ (List.getElem_mem hkl2)
        have hci := hR 2 _ hxw.c2
        have hi32 := hxw.i32
        have hi0 : Hid (inc0 l k = l[k].inc) := by rw [inc0, List.getElem?_eq_getElem hkl2]; exact rfl
        generalize l[k].inc = x at *
        have hcA : ∀ o, (wr.alloc o).cell? ⟨b2, off2 + k * 18 + 2, none⟩ = some (.int .u32 x) := fun o => ((Below.refl wr.heap.size wr).alloc (Nat.le_refl _) o).cell (p := ⟨b2, off2 + k * 18 + 2, none⟩) (World.block_lt_of_cell? _ _ hci) |>.trans hci
        clear hR hxw hci
        by_cases hx : x < 4294967295
        · have hxI : (x : Int) < 4294967295 := by omega
          cases sure with
          | false =>
            have hN : Hid (nameK m st l false (k + 1) = nameK m st l false k ++ [⟨p, x + 1⟩]) := hNS.out.trans (by rw [hi0.out, hI1.out, if_pos ⟨.inl rfl, hx⟩])
            (have o6 := (hown.alloc (.cells #[.int .i64 p, .int .u32 ((x : Int) + 1)] 30)).alloc (.cells #[.int .i64 p, .int .u32 ((x : Int) + 1)] 30); have hlv : Rd ((wr.alloc (.cells #[.int .i64 p, .int .u32 ((x : Int) + 1)] 30)).alloc (.cells #[.int .i64 p, .int .u32 ((x : Int) + 1)] 30)) 2 (some ⟨wr.heap.size + 1, 0, none⟩) 1 1 (nmF ⟨p, x + 1⟩) := Rd.blk1 (w := wr.alloc (.cells #[.int .i64 p, .int .u32 ((x : Int) + 1)] 30)) (cs := nmF ⟨p, x + 1⟩) (by simp) rfl; have b6 := (hbr.alloc hbr.size (.cells #[.int .i64 p, .int .u32 ((x : Int) + 1)] 30)).alloc (by simp; have := hbr.size; omega) (.cells #[.int .i64 p, .int .u32 ((x : Int) + 1)] 30))
            go_wp2_with (first | (go_at_call 21; refine (HH.out _).mono ?_; rintro e w' ⟨rfl, rfl⟩) | (at_builtin; refine wpList_append_rd Tryd.nmE rfl (.tmp 55) (.tmp 57) rfl o6 rfl hlv rfl (by intro u' hu; simp [nmF] at hu; rcases hu with rfl | rfl <;> rfl) (by unfold maxLen; omega) (by omega) (by have := b6.size; omega) ?_; intro v' w' hown' hg'))
            go_roundw
            case rel => exact ⟨k + 1, by omega, by go_num, by rw [hN.out, List.flatMap_append]; simpa using hown', belG b6 hg' b6.size (fun g hg => (o6.lt g hg).1)⟩
            case measure => simp [intOf]; omega
          | true =>
            cases sb with
            | false =>
              have hN : Hid (nameK m st l true (k + 1) = nameK m st l true k ++ [⟨p, x + 1⟩]) := hNS.out.trans (by rw [hi0.out, hI1.out, if_pos ⟨.inr rfl, hx⟩])
              (have o6 := (hown.alloc (.cells #[.int .i64 p, .int .u32 ((x : Int) + 1)] 30)).alloc (.cells #[.int .i64 p, .int .u32 ((x : Int) + 1)] 30); have hlv : Rd ((wr.alloc (.cells #[.int .i64 p, .int .u32 ((x : Int) + 1)] 30)).alloc (.cells #[.int .i64 p, .int .u32 ((x : Int) + 1)] 30)) 2 (some ⟨wr.heap.size + 1, 0, none⟩) 1 1 (nmF ⟨p, x + 1⟩) := Rd.blk1 (w := wr.alloc (.cells #[.int .i64 p, .int .u32 ((x : Int) + 1)] 30)) (cs := nmF ⟨p, x + 1⟩) (by simp) rfl; have b6 := (hbr.alloc hbr.size (.cells #[.int .i64 p, .int .u32 ((x : Int) + 1)] 30)).alloc (by simp; have := hbr.size; omega) (.cells #[.int .i64 p, .int .u32 ((x : Int) + 1)] 30))
              go_wp2_with (first | (go_at_call 21; refine (HH.out _).mono ?_; rintro e w' ⟨rfl, rfl⟩) | (at_builtin; refine wpList_append_rd Tryd.nmE rfl (.tmp 55) (.tmp 57) rfl o6 rfl hlv rfl (by intro u' hu; simp [nmF] at hu; rcases hu with rfl | rfl <;> rfl) (by unfold maxLen; omega) (by omega) (by have := b6.size; omega) ?_; intro v' w' hown' hg'))
              go_roundw
              case rel => exact ⟨k + 1, by omega, by go_num, by rw [hN.out, List.flatMap_append]; simpa using hown', belG b6 hg' b6.size (fun g hg => (o6.lt g hg).1)⟩
              case measure => simp [intOf]; omega
            | true =>
              have hN : Hid (nameK m st l true (k + 1) = nameK m st l true k ++ [⟨p, x⟩]) := hNS.out.trans (by rw [hi0.out, hI1.out, if_neg (by simp)])
              (have o6 := (hown.alloc (.cells #[.int .i64 p, .int .u32 (x : Int)] 30)).alloc (.cells #[.int .i64 p, .int .u32 (x : Int)] 30); have hlv : Rd ((wr.alloc (.cells #[.int .i64 p, .int .u32 (x : Int)] 30)).alloc (.cells #[.int .i64 p, .int .u32 (x : Int)] 30)) 2 (some ⟨wr.heap.size + 1, 0, none⟩) 1 1 (nmF ⟨p, x⟩) := Rd.blk1 (w := wr.alloc (.cells #[.int .i64 p, .int .u32 (x : Int)] 30)) (cs := nmF ⟨p, x⟩) (by simp) rfl; have b6 := (hbr.alloc hbr.size (.cells #[.int .i64 p, .int .u32 (x : Int)] 30)).alloc (by simp; have := hbr.size; omega) (.cells #[.int .i64 p, .int .u32 (x : Int)] 30))
              go_wp2_with (first | (go_at_call 21; refine (HH.out _).mono ?_; rintro e w' ⟨rfl, rfl⟩) | (at_builtin; refine wpList_append_rd Tryd.nmE rfl (.tmp 55) (.tmp 57) rfl o6 rfl hlv rfl (by intro u' hu; simp [nmF] at hu; rcases hu with rfl | rfl <;> rfl) (by unfold maxLen; omega) (by omega) (by have := b6.size; omega) ?_; intro v' w' hown' hg'))
              go_roundw
              case rel => exact ⟨k + 1, by omega, by go_num, by rw [hN.out, List.flatMap_append]; simpa using hown', belG b6 hg' b6.size (fun g hg => (o6.lt g hg).1)⟩
              case measure => simp [intOf]; omega
        · have hxI : ¬ (x : Int) < 4294967295 := by omega
          have hN : Hid (nameK m st l sure (k + 1) = nameK m st l sure k ++ [⟨p, x⟩]) := hNS.out.trans (by rw [hi0.out, hI1.out, if_neg (fun h => hx h.2)])
          have hxB : decide ((x : Int) < 4294967295) = false := decide_eq_false hxI
          clear hx hxI hi32
          (have o6 := (hown.alloc (.cells #[.int .i64 p, .int .u32 (x : Int)] 30)).alloc (.cells #[.int .i64 p, .int .u32 (x : Int)] 30); have hlv : Rd ((wr.alloc (.cells #[.int .i64 p, .int .u32 (x : Int)] 30)).alloc (.cells #[.int .i64 p, .int .u32 (x : Int)] 30)) 2 (some ⟨wr.heap.size + 1, 0, none⟩) 1 1 (nmF ⟨p, x⟩) := Rd.blk1 (w := wr.alloc (.cells #[.int .i64 p, .int .u32 (x : Int)] 30)) (cs := nmF ⟨p, x⟩) (by simp) rfl; have b6 := (hbr.alloc hbr.size (.cells #[.int .i64 p, .int .u32 (x : Int)] 30)).alloc (by simp; have := hbr.size; omega) (.cells #[.int .i64 p, .int .u32 (x : Int)] 30))
          cases sure <;> cases sb
          all_goals
            go_wp2_with (first | (go_at_call 21; refine (HH.out _).mono ?_; rintro e w' ⟨rfl, rfl⟩) | (at_builtin; refine wpList_append_rd Tryd.nmE rfl (.tmp 55) (.tmp 57) rfl o6 rfl hlv rfl (by intro u' hu; simp [nmF] at hu; rcases hu with rfl | rfl <;> rfl) (by unfold maxLen; omega) (by omega) (by have := b6.size; omega) ?_; intro v' w' hown' hg'))
            go_roundw
            case rel => exact ⟨k + 1, by omega, by go_num, by rw [hN.out, List.flatMap_append]; simpa using hown', belG b6 hg' b6.size (fun g hg => (o6.lt g hg).1)⟩
            case measure => simp [intOf]; omega
      · have hkI2 : ¬ (k : Int) < cn := by omega
        have hi0 : Hid (inc0 l k = 0) := by rw [inc0, List.getElem?_eq_none (by have := hl.out; omega)]; exact rfl
        cases sure with
        | false =>
          have hN : Hid (nameK m st l false (k + 1) = nameK m st l false k ++ [⟨p, 1⟩]) := hNS.out.trans (by rw [hi0.out, hI1.out, if_pos ⟨.inl rfl, by decide⟩])
          (have o6 := (hown.alloc (.cells #[.int .i64 p, .int .u32 (1 : Int)] 30)).alloc (.cells #[.int .i64 p, .int .u32 (1 : Int)] 30); have hlv : Rd ((wr.alloc (.cells #[.int .i64 p, .int .u32 (1 : Int)] 30)).alloc (.cells #[.int .i64 p, .int .u32 (1 : Int)] 30)) 2 (some ⟨wr.heap.size + 1, 0, none⟩) 1 1 (nmF ⟨p, 1⟩) := Rd.blk1 (w := wr.alloc (.cells #[.int .i64 p, .int .u32 (1 : Int)] 30)) (cs := nmF ⟨p, 1⟩) (by simp) rfl; have b6 := (hbr.alloc hbr.size (.cells #[.int .i64 p, .int .u32 (1 : Int)] 30)).alloc (by simp; have := hbr.size; omega) (.cells #[.int .i64 p, .int .u32 (1 : Int)] 30))
          go_wp2_with (first | (go_at_call 21; refine (HH.out _).mono ?_; rintro e w' ⟨rfl, rfl⟩) | (at_builtin; refine wpList_append_rd Tryd.nmE rfl (.tmp 55) (.tmp 57) rfl o6 rfl hlv rfl (by intro u' hu; simp [nmF] at hu; rcases hu with rfl | rfl <;> rfl) (by unfold maxLen; omega) (by omega) (by have := b6.size; omega) ?_; intro v' w' hown' hg'))
          go_roundw
          case rel => exact ⟨k + 1, by omega, by go_num, by rw [hN.out, List.flatMap_append]; simpa using hown', belG b6 hg' b6.size (fun g hg => (o6.lt g hg).1)⟩
          case measure => simp [intOf]; omega
        | true =>
          cases sb with
          | false =>
            have hN : Hid (nameK m st l true (k + 1) = nameK m st l true k ++ [⟨p, 1⟩]) := hNS.out.trans (by rw [hi0.out, hI1.out, if_pos ⟨.inr rfl, by decide⟩])
            (have o6 := (hown.alloc (.cells #[.int .i64 p, .int .u32 (1 : Int)] 30)).alloc (.cells #[.int .i64 p, .int .u32 (1 : Int)] 30); have hlv : Rd ((wr.alloc (.cells #[.int .i64 p, .int .u32 (1 : Int)] 30)).alloc (.cells #[.int .i64 p, .int .u32 (1 : Int)] 30)) 2 (some ⟨wr.heap.size + 1, 0, none⟩) 1 1 (nmF ⟨p, 1⟩) := Rd.blk1 (w := wr.alloc (.cells #[.int .i64 p, .int .u32 (1 : Int)] 30)) (cs := nmF ⟨p, 1⟩) (by simp) rfl; have b6 := (hbr.alloc hbr.size (.cells #[.int .i64 p, .int .u32 (1 : Int)] 30)).alloc (by simp; have := hbr.size; omega) (.cells #[.int .i64 p, .int .u32 (1 : Int)] 30))
            go_wp2_with (first | (go_at_call 21; refine (HH.out _).mono ?_; rintro e w' ⟨rfl, rfl⟩) | (at_builtin; refine wpList_append_rd Tryd.nmE rfl (.tmp 55) (.tmp 57) rfl o6 rfl hlv rfl (by intro u' hu; simp [nmF] at hu; rcases hu with rfl | rfl <;> rfl) (by unfold maxLen; omega) (by omega) (by have := b6.size; omega) ?_; intro v' w' hown' hg'))
            go_roundw
            case rel => exact ⟨k + 1, by omega, by go_num, by rw [hN.out, List.flatMap_append]; simpa using hown', belG b6 hg' b6.size (fun g hg => (o6.lt g hg).1)⟩
            case measure => simp [intOf]; omega
          | true =>
            have hN : Hid (nameK m st l true (k + 1) = nameK m st l true k ++ [⟨p, 0⟩]) := hNS.out.trans (by rw [hi0.out, hI1.out, if_neg (by simp)])
            (have o6 := (hown.alloc (.cells #[.int .i64 p, .int .u32 (0 : Int)] 30)).alloc (.cells #[.int .i64 p, .int .u32 (0 : Int)] 30); have hlv : Rd ((wr.alloc (.cells #[.int .i64 p, .int .u32 (0 : Int)] 30)).alloc (.cells #[.int .i64 p, .int .u32 (0 : Int)] 30)) 2 (some ⟨wr.heap.size + 1, 0, none⟩) 1 1 (nmF ⟨p, 0⟩) := Rd.blk1 (w := wr.alloc (.cells #[.int .i64 p, .int .u32 (0 : Int)] 30)) (cs := nmF ⟨p, 0⟩) (by simp) rfl; have b6 := (hbr.alloc hbr.size (.cells #[.int .i64 p, .int .u32 (0 : Int)] 30)).alloc (by simp; have := hbr.size; omega) (.cells #[.int .i64 p, .int .u32 (0 : Int)] 30))
            go_wp2_with (first | (go_at_call 21; refine (HH.out _).mono ?_; rintro e w' ⟨rfl, rfl⟩) | (at_builtin; refine wpList_append_rd Tryd.nmE rfl (.tmp 55) (.tmp 57) rfl o6 rfl hlv rfl (by intro u' hu; simp [nmF] at hu; rcases hu with rfl | rfl <;> rfl) (by unfold maxLen; omega) (by omega) (by have := b6.size; omega) ?_; intro v' w' hown' hg'))
            go_roundw
            case rel => exact ⟨k + 1, by omega, by go_num, by rw [hN.out, List.flatMap_append]; simpa using hown', belG b6 hg' b6.size (fun g hg => (o6.lt g hg).1)⟩
            case measure => simp [intOf]; omega
    · obtain rfl : k = cardN m := by omega
      go_wp2
      go_ret
      exact ⟨_, rfl, by rw [HNN.out]; exact own_mono hown hbw.size, belS hbw hbr⟩
end Go.Proofs.YtcgfpolklfhppaaDoor
