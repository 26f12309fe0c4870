/- text: the reader's message (written by gen_tr.py) -/
import Derived.Test.YtpkknhhohbobaaaGreatDoorTxtUQ
namespace Go.Proofs.YtpkknhhohbobaaaGreatDoor
set_option linter.unusedSimpArgs false
set_option linter.unusedVariables false
open Go.RowKit Go.Sort
section
variable {b : Nat} {w w' : World} {ws : List W8}
def mgA (m : TMg) (a : Option Addr) (n c : Nat) : Array Value := #[.int .i64 m.frm, .int .u32 (m.seq : Int), .int .u64 (m.stamp : Int), .int .i64 m.svc, .slice a n c, .string (mkB m.pay)]
/-- What the reading of a message answers. -/
def PRM (o : Option (TMg × List W8)) (B b : Nat) (e : Ending) (w' : World) : Prop := match o with
  | none => e = pan 4
  | some (m, r) => ∃ a c, e = .returned (.agg (mgA m a m.deps.length c)) ∧ Rd w' 1 a m.deps.length c (c32 m.deps) ∧ (m.deps.length ≠ 0 → ∀ g off, a = some ⟨g, off, none⟩ → B ≤ g) ∧ RdT w' b r
theorem PRM.no {o : Option (TMg × List W8)} {B : Nat} {e : Ending} (h : o = none) (he : e = pan 4) : PRM o B b e w := by subst h; exact he
theorem PRM.yes {o : Option (TMg × List W8)} {B : Nat} {m : TMg} {r : List W8} {e : Ending} {a : Option Addr} {c : Nat} (h : o = some (m, r)) (he : e = .returned (.agg (mgA m a m.deps.length c))) (hd : Rd w 1 a m.deps.length c (c32 m.deps)) (hB : m.deps.length ≠ 0 → ∀ g off, a = some ⟨g, off, none⟩ → B ≤ g) (hr : RdT w b r) : PRM o B b e w := by
  subst h
  exact ⟨a, c, he, hd, hB, hr⟩
theorem Kp.rdN {m : Nat} {x y : World} {n c : Nat} {a : Option Addr} {xs : List Value} {B : Nat} (k : Kp m x y) (h : Rd x 1 a n c xs) (hB : n ≠ 0 → ∀ g off, a = some ⟨g, off, none⟩ → B ≤ g) (hm : m < B) : Rd y 1 a n c xs := by
  by_cases h0 : n = 0
  · exact ⟨h.1, .inl h0⟩
  · exact k.rd h (fun g off e => by have := hB h0 g off e; omega)
set_option maxHeartbeats 3200000 in
set_option maxRecDepth 100000 in
theorem rdmsg_any (l0 : List W8) (h : RdT w b l0) (hT : TL w) :
    Calls Tryz.prog 51 #[.pointer (some ⟨b, 0, none⟩)] w fun e w' => PRM (takeM l0) w.heap.size b e w' ∧ Kp b w w' := by
  have h8 := h.b8
  have hlt := h.lt
  have hb1 := alloc_below w (.cells #[.int .i64 0, .int .u32 0, .int .u64 0, .int .i64 0, .slice none 0 0, .string ⟨#[]⟩] 29)
  have hM := BlkAt.new w 29 #[.int .i64 0, .int .u32 0, .int .u64 0, .int .i64 0, .slice none 0 0, .string ⟨#[]⟩]
  obtain ⟨w0, hw0⟩ : ∃ z, z = w.alloc (.cells #[.int .i64 0, .int .u32 0, .int .u64 0, .int .i64 0, .slice none 0 0, .string ⟨#[]⟩] 29) := ⟨_, rfl⟩
  have hsz0 : w0.heap.size = w.heap.size + 1 := by rw [hw0]; simp
  rw [← hw0] at hb1 hM
  obtain ⟨mb, hmb⟩ : ∃ z, z = w.heap.size := ⟨_, rfl⟩
  rw [← hmb] at hM hsz0
  have hmbb : mb ≠ b := by omega
  have hbm : b < mb := by omega
  have hR0 := Lib.hid (h.below hb1)
  have hk0 := Lib.hid (Kp.ofBelow (b := b) hb1)
  have hM0 := Lib.hid hM
  replace hw0 := Lib.hid hw0
  replace hmb := Lib.hid hmb
  replace hT := Lib.hid hT
  clear h hM hb1
  have HA0 := Lib.hid (rdproc_any l0 hR0.out (hT.out.kp hk0.out h8))
  go_enter Tryz.func51, Tryz.ntmps51
  go_wp2_with fail
  rw [← hw0.out, ← hmb.out]
  refine HA0.out.mono ?_
  rintro e w1 ⟨hp, hkk⟩
  have hM1 := Lib.hid (hkk.blk hM0.out hmbb)
  have hk1 := Lib.hid (hk0.out.trans hkk)
  clear HA0 hkk hM0 hk0 hR0
  cases hv0 : takeN 63 l0 with
  | none =>
    rw [hv0] at hp
    obtain rfl : e = pan 4 := hp
    exact ⟨rfl, PRM.no (by simp only [takeM, hv0, Option.bind_some, Option.bind_none, Option.map_none]) rfl, hk1.out⟩
  | some p =>
    obtain ⟨v0, l1⟩ := p
    rw [hv0] at hp
    obtain ⟨rfl, hR1⟩ : e = .returned (.int .i64 (v0 : Int)) ∧ RdT w1 b l1 := hp
    replace hR1 := Lib.hid hR1
    replace hv0 := Lib.hid hv0
    have HA1 := Lib.hid (word_any l1 hR1.out)
    have hsm := hR1.out.small
    go_wp2_with fail
    refine HA1.out.mono ?_
    rintro e w2 ⟨hp, hkk⟩
    have hM2 := Lib.hid (hkk.blk hM1.out hmbb)
    have hk2 := Lib.hid (hk1.out.trans hkk)
    clear HA1 hkk hM1 hk1 hR1
    cases l1 with
    | nil =>
      obtain rfl : e = pan 4 := hp
      exact ⟨rfl, PRM.no (by simp only [takeM, hv0.out, Option.bind_some]; rfl) rfl, hk2.out⟩
    | cons u l3 =>
      obtain ⟨rfl, hR2⟩ := hp
      have HB1 := Lib.hid (value_any u 4294967295 (by decide) (by have := hsm u (by simp); omega) w2 (hT.out.kp hk2.out h8))
      clear hsm
      go_wp2_with fail
      refine HB1.out.mono ?_
      rintro e w3 ⟨hv, hb3⟩
      have hM3 := Lib.hid (hM2.out.below hb3 hM2.out.lt)
      have hk3 := Lib.hid (hk2.out.trans (Kp.ofBelow hb3))
      have hR3 := Lib.hid (hR2.below hb3)
      clear HB1 hM2 hk2 hR2 hb3
      cases hval : valN u 4294967295 with
      | none =>
        rw [hval] at hv
        obtain rfl : e = pan 4 := hv
        exact ⟨rfl, PRM.no (by simp only [takeM, hv0.out, takeN_cons, hval, Option.bind_some, Option.bind_none, Option.map_none]) rfl, hk3.out⟩
      | some v1 =>
        rw [hval] at hv
        obtain rfl : e = .returned (.int .u64 (v1 : Int)) := hv
        have hd32 := (valN_some.1 hval).2
        have hwd : IntKind.u32.wrap (v1 : Int) = v1 := by rw [IntKind.wrap_u32]; omega
        have hv1 := Lib.hid (show takeN 4294967295 (u :: l3) = some (v1, l3) from by rw [takeN_cons, hval]; rfl)
        clear hval hd32
        have HA3 := Lib.hid (rdnum_any l3 hR3.out (hT.out.kp hk3.out h8))
        go_wp2_with fail
        refine HA3.out.mono ?_
        rintro e w4 ⟨hp, hkk⟩
        have hM4 := Lib.hid (hkk.blk hM3.out hmbb)
        have hk4 := Lib.hid (hk3.out.trans hkk)
        clear HA3 hkk hM3 hk3 hR3
        cases hv3 : takeN 18446744073709551615 l3 with
        | none =>
          rw [hv3] at hp
          obtain rfl : e = pan 4 := hp
          exact ⟨rfl, PRM.no (by simp only [takeM, hv0.out, hv1.out, hv3, Option.bind_some, Option.bind_none, Option.map_none]) rfl, hk4.out⟩
        | some p =>
          obtain ⟨v3, l4⟩ := p
          rw [hv3] at hp
          obtain ⟨rfl, hR4⟩ : e = .returned (.int .u64 (v3 : Int)) ∧ RdT w4 b l4 := hp
          replace hR4 := Lib.hid hR4
          replace hv3 := Lib.hid hv3
          have HA4 := Lib.hid (rdproc_any l4 hR4.out (hT.out.kp hk4.out h8))
          go_wp2_with fail
          refine HA4.out.mono ?_
          rintro e w5 ⟨hp, hkk⟩
          have hM5 := Lib.hid (hkk.blk hM4.out hmbb)
          have hk5 := Lib.hid (hk4.out.trans hkk)
          clear HA4 hkk hM4 hk4 hR4
          cases hv4 : takeN 63 l4 with
          | none =>
            rw [hv4] at hp
            obtain rfl : e = pan 4 := hp
            exact ⟨rfl, PRM.no (by simp only [takeM, hv0.out, hv1.out, hv3.out, hv4, Option.bind_some, Option.bind_none, Option.map_none]) rfl, hk5.out⟩
          | some p =>
            obtain ⟨v4, l5⟩ := p
            rw [hv4] at hp
            obtain ⟨rfl, hR5⟩ : e = .returned (.int .i64 (v4 : Int)) ∧ RdT w5 b l5 := hp
            replace hR5 := Lib.hid hR5
            replace hv4 := Lib.hid hv4
            have hsz5 := hM5.out.lt
            have hle5 := hk5.out.size
            have HA5 := Lib.hid (rddeps_any l5 hR5.out (hT.out.kp hk5.out h8))
            go_wp2_with fail
            refine HA5.out.mono ?_
            rintro e w6 ⟨hp, hkk⟩
            have hM6 := Lib.hid (hkk.blk hM5.out hmbb)
            have hk6 := Lib.hid (hk5.out.trans hkk)
            clear HA5 hkk hM5 hk5 hR5
            cases hv5 : takeD l5 with
            | none =>
              rw [hv5] at hp
              obtain rfl : e = pan 4 := hp
              exact ⟨rfl, PRM.no (by simp only [takeM, hv0.out, hv1.out, hv3.out, hv4.out, hv5, Option.bind_some, Option.bind_none]) rfl, hk6.out⟩
            | some p =>
              obtain ⟨v5, l6⟩ := p
              rw [hv5] at hp
              obtain ⟨ra, rc, rfl, hr6, hB6, hR6⟩ : ∃ a c, e = .returned (.slice a v5.length c) ∧ Rd w6 1 a v5.length c (c32 v5) ∧ (v5.length ≠ 0 → ∀ g off, a = some ⟨g, off, none⟩ → w5.heap.size ≤ g) ∧ RdT w6 b l6 := hp
              replace hR6 := Lib.hid hR6
              replace hr6 := Lib.hid hr6
              replace hB6 := Lib.hid hB6
              replace hv5 := Lib.hid hv5
              obtain ⟨rn, hrn⟩ : ∃ z, z = v5.length := ⟨_, rfl⟩
              rw [← hrn] at hr6 hB6 ⊢
              replace hrn := Lib.hid hrn
              have HA6 := Lib.hid (rdbytes_any l6 hR6.out (hT.out.kp hk6.out h8))
              go_wp2_with fail
              refine HA6.out.mono ?_
              rintro e w7 ⟨hp, hkk⟩
              have hM7 := Lib.hid (hkk.blk hM6.out hmbb)
              have hk7 := Lib.hid (hk6.out.trans hkk)
              have hr7 := Lib.hid (Kp.rdN hkk hr6.out hB6.out (by omega))
              clear HA6 hkk hM6 hk6 hR6
              cases hv6 : takeB l6 with
              | none =>
                rw [hv6] at hp
                obtain rfl : e = pan 4 := hp
                exact ⟨rfl, PRM.no (by simp only [takeM, hv0.out, hv1.out, hv3.out, hv4.out, hv5.out, hv6, Option.bind_some, Option.bind_none, Option.map_none]) rfl, hk7.out⟩
              | some p =>
                obtain ⟨v6, l7⟩ := p
                rw [hv6] at hp
                obtain ⟨rfl, hR7⟩ : e = .returned (.string (mkB v6)) ∧ RdT w7 b l7 := hp
                replace hR7 := Lib.hid hR7
                replace hv6 := Lib.hid hv6
                have hq := Lib.hid (show takeM l0 = some (⟨v0, v1, v3, v4, v5, v6⟩, l7) from by simp only [takeM, hv0.out, hv1.out, hv3.out, hv4.out, hv5.out, hv6.out, Option.bind_some, Option.map_some])
                have hI : (Tryz.prog.info? 29).map (·.size) = some 6 := by kernel_rfl
                clear hv0 hv1 hv3 hv4 hv5 hv6 hr6
                go_wp2_with (first | (refine wpList_blk_put (cs := #[.int .i64 (v0 : Int), .int .u32 (v1 : Int), .int .u64 (v3 : Int), .int .i64 (v4 : Int), .slice ra rn rc, .string (mkB v6)]) rfl (.tmp 2) (.tmp 17) rfl rfl rfl hM7.out hI (by show 0 + 6 ≤ 6; decide) (by simp [Value.oneCell']) ?_; intro w8 hM8 hK8 hs8))
                have hR8 := Lib.hid (RdT.off hR7.out hK8 (by omega))
                have hk8 := Lib.hid (Kp.near hk7.out hK8 hs8 (by have := hmb.out; omega))
                have hr8 := Lib.hid (Kp.rdN hK8 hr7.out hB6.out (by omega))
                refine bodyPost_ret (results_cell_row rfl _ _ mb 29 _ (0, 0) _ rfl hM8 Tryz.underlying29 rfl hI) rfl ?_
                rw [hrn.out] at hr8 hB6
                exact ⟨PRM.yes (a := ra) (c := rc) hq.out (by rw [hrn.out]; rfl) hr8.out (fun h0 g off e => by have := hB6.out h0 g off e; omega) hR8.out, hk8.out⟩
end
end Go.Proofs.YtpkknhhohbobaaaGreatDoor
