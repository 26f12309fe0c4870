/- the net: the walk of NetTrue -/
import Derived.Test.YtmlkmonapnebiaaDoorRNetR
namespace Go.Proofs.YtmlkmonapnebiaaDoorR
open Go.RowKit Go.Sort

theorem Tryd.acZ : (Tryd.prog.info? 37).map (·.zero) = some (some (.agg #[.int .i64 0, .int .i64 0, .int .i64 0, .string ⟨#[]⟩, .bool false, .int .i64 0, .int .i64 0, .int .u8 0, .int .u64 0])) := by kernel_rfl
theorem Tryd.acI : (Tryd.prog.info? 37).map (·.size) = some 9 := by kernel_rfl
def anyM (l : List NAc) (j : Nat) (d : Dg) : Bool := orgB l j d
theorem orgB_zero (l : List NAc) (d : Dg) : orgB l 0 d = false := rfl
theorem orgB_succ {l : List NAc} {j : Nat} {d : Dg} (hj : j < l.length) (h : orgB l j d = false) : orgB l (j + 1) d = matchB l[j] d := by
  unfold orgB at *
  rw [List.take_succ_eq_append_getElem hj, List.any_append, h]
  simp
theorem mB_k {y : NAc} {d : Dg} (h : y.kind ≠ 0) : matchB y d = false := by unfold matchB; rw [decide_eq_false h]; rfl
theorem mB_s {y : NAc} {d : Dg} (h : y.d.src ≠ d.src) : matchB y d = false := by unfold matchB; rw [decide_eq_false h]; simp
theorem mB_d {y : NAc} {d : Dg} (h : y.d.dst ≠ d.dst) : matchB y d = false := by unfold matchB; rw [decide_eq_false h]; simp
theorem mB_g {y : NAc} {d : Dg} (h : y.kind = 0) (h1 : y.d.src = d.src) (h2 : y.d.dst = d.dst) : matchB y d = (decide (gap y.d.data d.data = 0) && !d.torn || decide (gap y.d.data d.data = 1) && d.torn) := by unfold matchB; rw [decide_eq_true h, decide_eq_true h1, decide_eq_true h2]; rfl
theorem un_ok {y : NAc} (h : y.Ok) : y.un.Ok := ⟨h.s, h.data⟩
set_option maxHeartbeats 12800000 in
set_option maxRecDepth 100000 in
theorem ntrue_any (n : Int) (a : Option Addr) (cn c : Nat) (l : List NAc) (hl : ∀ y ∈ l, y.Ok) (hmk : ∀ y ∈ l, 0 ≤ y.mask ∧ y.mask < 256) (w : World) (hr : RdN w a cn c l) (hT : Tab w) :
    Calls Tryd.prog 4 #[.int .i64 n, .slice a cn c] w fun e w' => e = .returned (.bool true) ∧ Below w.heap.size w w' := by
  have hln := Lib.hid hr.len
  have hmx := Rd.le_max hr
  unfold maxLen at hmx
  have hAw := Lib.hid (awake_any w hT)
  go_enter Tryd.func4, Tryd.ntmps4
  go_wp2_with fail
  refine hAw.out.mono ?_
  rintro e w1 ⟨rfl, hb1⟩
  clear hAw
  have hF := few_any a cn c l hl w1 (Rd.below hr hb1 (Nat.le_refl _))
  cases hfw : fewGo 0 0 l with
  | false =>
    rw [hfw] at hF
    replace hF := Lib.hid hF
    go_wp2_with fail
    refine hF.out.mono ?_
    rintro e w' ⟨rfl, rfl⟩
    go_wp2
    go_ret
    exact ⟨rfl, hb1⟩
  | true =>
  rw [hfw] at hF
  replace hF := Lib.hid hF
  clear hfw
  go_wp2_with fail
  refine hF.out.mono ?_
  rintro e w' ⟨rfl, rfl⟩
  clear hF
  go_wp2_with fail
  refine (NEn.new n hT hb1).mono ?_
  rintro e w3 ⟨b, rfl, E0, _, _⟩
  have hz0 : (NS.nw n).Dz := fun d hd => by cases hd
  have hi0 : (NS.nw n).Inv l 0 := fun d hd => by cases hd
  generalize NS.nw n = s0 at *
  clear hb1
  go_wp2
  go_loopw [6] (fun i wr => ∃ (k : Nat) (s : NS) (O : Nat → Prop), k ≤ cn ∧ i = .int .i64 k ∧ NEn w b s O wr ∧ s.Dz ∧ s.Inv l k) (fun i _ => cn - (intOf i).toNat)
  case atStart => exact ⟨0, s0, _, Nat.zero_le _, rfl, E0, hz0, hi0⟩
  case round =>
    clear E0 hz0 hi0
    obtain ⟨k, s, O, hk, rfl, E, hz, hiv⟩ := hrel
    by_cases hlt : k < cn
    · have hkI : (k : Int) < cn := by omega
      have hkl : k < l.length := by rw [hln.out]; exact hlt
      obtain ⟨bl, off, rfl, hbl⟩ := Rd.addr hr (by omega)
      have HRj := Lib.hid (fun W (h : Below w.heap.size w W) j (hj : j < l.length) => RdN.at (show RdN W (some ⟨bl, off, none⟩) cn c l from Rd.below hr h (Nat.le_refl _)) j hj)
      have hyo := un_ok (hl _ (List.getElem_mem hkl))
      obtain ⟨r0, r1, r2, r3, r4, r5, r6, r7, r8⟩ := HRj.out _ E.bel k hkl
      have hmm := hmk _ (List.getElem_mem hkl)
      have hin2 := Lib.hid (NS.act_inv hiv hkl hmm.1 hmm.2)
      generalize l[k] = y at *
      have hac := Lib.hid (fun W (E : NEn w b s O W) => E.act hz hT y.un hyo)
      have HZ1 := Lib.hid (NS.act_dz hz hyo)
      have hZ := BlkAt.new wr 37 #[.int .i64 0, .int .i64 0, .int .i64 0, .string ⟨#[]⟩, .bool false, .int .i64 0, .int .i64 0, .int .u8 0, .int .u64 0]
      have hne0 : ∀ (x : Bool), (#[.int .i64 y.kind, .int .i64 y.d.src, .int .i64 y.d.dst, .string y.d.data, .bool x, .int .i64 y.i, .int .i64 y.at_, .int .u8 y.mask, .int .u64 y.s] : Array Value).all (·.oneCell') = true := fun x => by simp [Value.oneCell']
      clear hmm
      by_cases hk1 : y.kind = 1
      · have hact : s.act y.un = (s.take y.i).1 := by unfold NS.act; rw [if_neg (by show y.kind ≠ 0; omega), if_pos (show y.un.kind = 1 from hk1)]; rfl
        rw [hact] at hin2 HZ1
        have hTt := Lib.hid (NS.take_true hiv y.i)
        have hTk := Lib.hid (fun W (E : NEn w b s O W) => E.take y.i)
        unfold dgV at hTk
        clear hac hact
        generalize s.take y.i = tk at *
        obtain ⟨s', d, ok⟩ := tk
        dsimp only at hin2 HZ1 hTt hTk
        have hkB : (y.kind != 1) = false := by simp [hk1]
        replace hk1 := Lib.hid hk1
        go_wp2_with (first
          | (refine wpList_blk_alloc rfl rfl Tryd.acZ wr.heap.size rfl ?_)
          | (refine wpList_blk_store (cs := #[.int .i64 y.kind, .int .i64 y.d.src, .int .i64 y.d.dst, .string y.d.data, .bool y.d.torn, .int .i64 y.i, .int .i64 y.at_, .int .u8 y.mask, .int .u64 y.s]) rfl (.tmp 7) (.tmp 30) rfl rfl rfl hZ Tryd.acI rfl (hne0 _) ?_; intro w4 hB4 hK4 hs4; have q4 := hB4.cell (i := 4) rfl; have f4 := hB4.fz 4; have q0 := hB4.cell (i := 0) rfl; have q5 := hB4.cell (i := 5) rfl; clear hZ))
        have hb5 : Below wr.heap.size wr (w4.setCell ⟨wr.heap.size, 4, none⟩ (.bool false)) := (alloc_store hK4).setCell (Nat.le_refl _) _
        have E5 := E.below hb5
        refine (hTk.out _ E5).mono ?_
        rintro e w6 ⟨rfl, O6, E6, _, _⟩
        clear hB4 hK4 hs4 q4 f4 q0 q5 hb5 E5 E r0 r1 r2 r3 r4 r5 r6 r7 r8 hkB hTk
        have hZ := BlkAt.new w6 35 #[.int .i64 0, .int .i64 0, .string ⟨#[]⟩, .bool false]
        cases ok with
        | false =>
          clear hTt
          go_wp2_with (first
            | (refine wpList_blk_alloc rfl rfl Tryd.dgZ w6.heap.size rfl ?_)
            | (refine wpList_blk_store (cs := #[.int .i64 d.src, .int .i64 d.dst, .string d.data, .bool d.torn]) rfl (.tmp 8) (.tmp 44) rfl rfl rfl hZ Tryd.dgI rfl (dg_one d) ?_; intro w7 hD7 hK7 hs7; replace E6 := E6.below (alloc_store hK7); clear hZ hK7 hs7 hD7))
          go_roundw
          case rel => exact ⟨k + 1, s', O6, by omega, by go_num, E6, HZ1.out, hin2.out⟩
          case measure => simp [intOf]; omega
        | true =>
          obtain ⟨t1, t2⟩ := hTt.out rfl
          replace t1 := Lib.hid t1
          replace t2 := Lib.hid t2
          clear hTt
          go_wp2_with (first
            | (refine wpList_blk_alloc rfl rfl Tryd.dgZ w6.heap.size rfl ?_)
            | (refine wpList_blk_store (cs := #[.int .i64 d.src, .int .i64 d.dst, .string d.data, .bool d.torn]) rfl (.tmp 8) (.tmp 44) rfl rfl rfl hZ Tryd.dgI rfl (dg_one d) ?_; intro w7 hD7 hK7 hs7; replace E6 := E6.below (alloc_store hK7); have hl7 := hD7.lt; clear hZ hK7 hs7))
          generalize w6.heap.size = g at *
          go_loopw [10, 11] (fun fb j wx => ∃ (j' : Nat), j' ≤ k ∧ j = .int .i64 j' ∧ fb = .bool (orgB l j' d) ∧ Below w7.heap.size w7 wx) (fun _ j _ => k - (intOf j).toNat)
          case atStart => exact ⟨0, Nat.zero_le _, rfl, rfl, Below.refl _ _⟩
          case round =>
            obtain ⟨j, hj, rfl, rfl, hbx⟩ := hrel
            have hDx := hD7.below hbx hl7
            have p0 := hDx.cell (i := 0) rfl
            have p1 := hDx.cell (i := 1) rfl
            have p2 := hDx.cell (i := 2) rfl
            have p3 := hDx.cell (i := 3) rfl
            cases hob : orgB l j d with
            | true =>
              have E8 := E6.below hbx
              have HL := Lib.hid (E8.linked t2)
              clear p2 p3 hDx hD7 hob
              have hjs : (j : Int) < k ∨ ¬ (j : Int) < k := by omega
              rcases hjs with hjI | hjI
              · go_wp2_with fail
                refine HL.out.mono ?_
                rintro e w' ⟨rfl, rfl⟩
                go_wp2
                go_roundw
                case rel => exact ⟨k + 1, s', O6, by omega, by go_num, E8, HZ1.out, hin2.out⟩
                case measure => simp [intOf]; omega
              · go_wp2_with fail
                refine HL.out.mono ?_
                rintro e w' ⟨rfl, rfl⟩
                go_wp2
                go_roundw
                case rel => exact ⟨k + 1, s', O6, by omega, by go_num, E8, HZ1.out, hin2.out⟩
                case measure => simp [intOf]; omega
            | false =>
              by_cases hjk : j < k
              · as_aux_lemma =>
                  have hjI : (j : Int) < k := by omega
                  have hjl : j < l.length := by omega
                  have hjc : (j : Int) < cn := by omega
                  have hsc := Lib.hid (orgB_succ hjl hob)
                  obtain ⟨r0, r1, r2, r3, r4, r5, r6, r7, r8⟩ := HRj.out _ (belS E6.bel hbx) j hjl
                  have hsz := Lib.hid ((hl _ (List.getElem_mem hjl)).data)
                  have R0 := Lib.hid (fun W h => (HRj.out W h j hjl).1)
                  generalize l[j] = y2 at *
                  have hZ := BlkAt.new wr 35 #[.int .i64 0, .int .i64 0, .string ⟨#[]⟩, .bool false]
                  have hne4 := dg_one y2.d
                  go_wp2_with (first
                    | (refine wpList_blk_alloc rfl rfl Tryd.dgZ wr.heap.size rfl ?_)
                    | (refine wpList_blk_store (cs := #[.int .i64 y2.d.src, .int .i64 y2.d.dst, .string y2.d.data, .bool y2.d.torn]) rfl (.tmp 12) (.tmp 61) rfl rfl rfl hZ Tryd.dgI rfl hne4 ?_; intro w8 hB8 hK8 hs8; have hb8 := alloc_store hK8; have g2 := hB8.cell (i := 2) rfl; have p2 := (hDx.below hb8 hDx.lt).cell (i := 2) rfl; clear hZ hK8 hs8))
                  refine (differ_any y2.d.data d.data hsz.out _).mono ?_
                  rintro e w9 ⟨rfl, hb9⟩
                  have hb89 := belS hb8 hb9
                  have hD9 := hDx.below hb89 hDx.lt
                  have hB9 := hB8.below hb9 hB8.lt
                  have hF9 := Lib.hid (belS hbx hb89)
                  clear r0 r1 r2 r3 r4 r5 r6 r7 r8 p0 p1 p2 p3 g2
                  have r0 := R0.out _ (belS E6.bel hF9.out)
                  have d0 := hD9.cell (i := 0) rfl
                  have d1 := hD9.cell (i := 1) rfl
                  have d3 := hD9.cell (i := 3) rfl
                  have e0 := hB9.cell (i := 0) rfl
                  have e1 := hB9.cell (i := 1) rfl
                  have HM0 := Lib.hid (fun h => mB_k (y := y2) (d := d) h)
                  have HM1 := Lib.hid (fun h => mB_s (y := y2) (d := d) h)
                  have HM2 := Lib.hid (fun h => mB_d (y := y2) (d := d) h)
                  have HM3 := Lib.hid (fun h h1 h2 => mB_g (y := y2) (d := d) h h1 h2)
                  generalize gap y2.d.data d.data = gq at *
                  clear hD9 hB9 hb89 hb9 hB8 hb8 hDx R0 HRj
                  have main : ∀ r, matchB y2 d = r → (.bool r : Value) = .bool (orgB l (j + 1) d) := fun r hr => by rw [hsc.out, hr]
                  replace main := Lib.hid main
                  by_cases c0 : y2.kind = 0
                  · by_cases c1 : y2.d.src = d.src
                    · by_cases c2 : y2.d.dst = d.dst
                      · have hm := HM3.out c0 c1 c2
                        rw [c0] at r0
                        rw [c1] at e0
                        rw [c2] at e1
                        replace c0 := Lib.hid c0
                        replace c1 := Lib.hid c1
                        replace c2 := Lib.hid c2
                        have hgs : gq = 0 ∨ gq = 1 ∨ (¬ gq = 0 ∧ ¬ gq = 1) := by omega
                        obtain ⟨tn, htn⟩ : ∃ tn, d.torn = tn := ⟨_, rfl⟩
                        rw [show (#[.int .i64 d.src, .int .i64 d.dst, .string d.data, .bool d.torn] : Array Value)[3] = .bool d.torn from rfl, htn] at d3
                        rw [htn] at hm
                        clear htn
                        rcases hgs with hg0 | hg0 | ⟨hg0, hg1⟩
                        · subst hg0
                          cases tn
                          all_goals
                            replace hm := Lib.hid hm
                            go_wp2
                            go_roundw
                            case rel => exact ⟨j + 1, by omega, by go_num, main.out _ (hm.out.trans (by rfl)), hF9.out⟩
                            case measure => simp [intOf]; omega
                        · subst hg0
                          cases tn
                          all_goals
                            replace hm := Lib.hid hm
                            go_wp2
                            go_roundw
                            case rel => exact ⟨j + 1, by omega, by go_num, main.out _ (hm.out.trans (by rfl)), hF9.out⟩
                            case measure => simp [intOf]; omega
                        · rw [decide_eq_false hg0, decide_eq_false hg1] at hm
                          replace hm := Lib.hid hm
                          go_wp2
                          go_roundw
                          case rel => exact ⟨j + 1, by omega, by go_num, main.out _ (hm.out.trans (by rfl)), hF9.out⟩
                          case measure => simp [intOf]; omega
                      · have hm := Lib.hid (HM2.out c2)
                        rw [c0] at r0
                        rw [c1] at e0
                        go_wp2
                        go_roundw
                        case rel => exact ⟨j + 1, by omega, by go_num, main.out _ hm.out, hF9.out⟩
                        case measure => simp [intOf]; omega
                    · have hm := Lib.hid (HM1.out c1)
                      rw [c0] at r0
                      go_wp2
                      go_roundw
                      case rel => exact ⟨j + 1, by omega, by go_num, main.out _ hm.out, hF9.out⟩
                      case measure => simp [intOf]; omega
                  · have hm := Lib.hid (HM0.out c0)
                    go_wp2
                    go_roundw
                    case rel => exact ⟨j + 1, by omega, by go_num, main.out _ hm.out, hF9.out⟩
                    case measure => simp [intOf]; omega
              · obtain rfl : j = k := by omega
                exact absurd (t1.out.symm.trans hob) (by decide)
      · have HA := Lib.hid (fun W (E : NEn w b s O W) => hac.out W E)
        have hkB : (y.kind != 1) = true := by simp [hk1]
        replace hk1 := Lib.hid hk1
        go_wp2_with (first
          | (refine wpList_blk_alloc rfl rfl Tryd.acZ wr.heap.size rfl ?_)
          | (refine wpList_blk_store (cs := #[.int .i64 y.kind, .int .i64 y.d.src, .int .i64 y.d.dst, .string y.d.data, .bool y.d.torn, .int .i64 y.i, .int .i64 y.at_, .int .u8 y.mask, .int .u64 y.s]) rfl (.tmp 7) (.tmp 30) rfl rfl rfl hZ Tryd.acI rfl (hne0 _) ?_; intro w4 hB4 hK4 hs4; have q4 := hB4.cell (i := 4) rfl; have f4 := hB4.fz 4; have q0 := hB4.cell (i := 0) rfl; have hB5 := hB4.set 4 (.bool false); clear hZ)
          | (refine wpList_blk_load rfl (.tmp 7) rfl Tryd.underlying37 rfl rfl hB5 Tryd.acI ?_))
        have hb5 : Below wr.heap.size wr (w4.setCell ⟨wr.heap.size, 4, none⟩ (.bool false)) := (alloc_store hK4).setCell (Nat.le_refl _) _
        refine (HA.out _ (E.below hb5)).mono ?_
        rintro e w6 ⟨rfl, O6, E6, _, _⟩
        clear hB4 hK4 hs4 q4 f4 q0 hB5 hb5 E r0 r1 r2 r3 r4 r5 r6 r7 r8 hkB HA hac
        go_wp2
        go_roundw
        case rel => exact ⟨k + 1, _, O6, by omega, by go_num, E6, HZ1.out, hin2.out⟩
        case measure => simp [intOf]; omega
    · obtain rfl : k = cn := by omega
      have hkI : ¬ (k : Int) < k := by omega
      have Eb := E.bel
      clear hiv E hz
      go_wp2
      go_ret
      exact ⟨rfl, Eb⟩
end Go.Proofs.YtmlkmonapnebiaaDoorR
