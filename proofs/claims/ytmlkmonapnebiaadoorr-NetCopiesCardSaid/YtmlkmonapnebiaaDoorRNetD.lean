/- the net: walks of At, Send -/
import Derived.Test.YtmlkmonapnebiaaDoorRNetC
namespace Go.Proofs.YtmlkmonapnebiaaDoorR
open Go.RowKit Go.Sort

theorem results_row1 {P : Program} {fn : Func} {p q : Tmp} {ty : TypeId} (h : fn.results = #[.cell p ty, .tmp q]) (tmps : Array Value) (w : World) (g : Nat) (t : TypeId) (cs : Array Value) (fr : Nat × Nat) (d : TypeDesc)
    (hp : tmps.getD p undef = .pointer (some ⟨g, 0, none⟩)) (hg : w.heap[g]? = some (.cells cs t fr))
    (hu : P.underlying ty = some d) (hd : (match d with | .struct _ | .array _ _ => true | _ => false) = true) (hi : (P.info? ty).map (·.size) = some cs.size) :
    (results fn tmps).run P w = .ok (.tuple #[.agg cs, tmps.getD q undef]) w := by
  have hp' : tmps[p]?.getD undef = .pointer (some ⟨g, 0, none⟩) := by simpa using hp
  simp [results, h, hp', asAddr, run_loadVar_row w g t ty cs fr d hg hu hd hi, Result.andThen]
def dgV (r : Dg × Bool) : Value := .tuple #[.agg #[.int .i64 r.1.src, .int .i64 r.1.dst, .string r.1.data, .bool r.1.torn], .bool r.2]
theorem Tryd.dgZ : (Tryd.prog.info? 35).map (·.zero) = some (some (.agg #[.int .i64 0, .int .i64 0, .string ⟨#[]⟩, .bool false])) := by kernel_rfl
theorem Tryd.dgB : Tryd.prog.built 35 [] = some #[.int .i64 0, .int .i64 0, .string ⟨#[]⟩, .bool false] := by kernel_rfl
theorem Tryd.dgI : (Tryd.prog.info? 35).map (·.size) = some 4 := by kernel_rfl
theorem Tryd.dgE : Elt Tryd.prog 48 35 (.agg #[.int .i64 0, .int .i64 0, .string ⟨#[]⟩, .bool false]) 4 40 := ⟨by kernel_rfl, by kernel_rfl, rfl, by decide⟩
theorem dg_one (x : Dg) : (#[.int .i64 x.src, .int .i64 x.dst, .string x.data, .bool x.torn] : Array Value).all (·.oneCell') = true := by simp [Value.oneCell']
theorem alloc_store {w w' : World} {o : Obj} (k : Kp w.heap.size (w.alloc o) w') : Below w.heap.size w w' := Kp.below ((Below.refl _ _).alloc (Nat.le_refl _) _) k (Nat.le_refl _) (by simp)
def NS.at (s : NS) (i : Int) : Dg × Bool := if s.there i = true then (s.l.getD i.toNat .zero, true) else (.zero, false)
section
variable {B : Nat} {w : World} {O : Nat → Prop} {b : Nat} {s : NS} {v : Value}
theorem there_t {i : Int} (h : s.there i = true) : ∃ k : Nat, i = k ∧ k < s.l.length := by
  unfold NS.there at h
  have := of_decide_eq_true h
  exact ⟨i.toNat, by omega, by omega⟩
set_option maxHeartbeats 1600000 in
set_option maxRecDepth 100000 in
theorem at_any (i : Int) (h : NetAt B w O b s v) :
    Calls Tryd.prog 21 #[.pointer (some ⟨b, 0, none⟩), .int .i64 i] w fun e w' => e = .returned (dgV (s.at i)) ∧ Below w.heap.size w w' := by
  have hbx : Below w.heap.size w (w.alloc (.cells #[.int .i64 0, .int .i64 0, .string ⟨#[]⟩, .bool false] 35)) := (Below.refl _ _).alloc (Nat.le_refl _) _
  have hZ := BlkAt.new w 35 #[.int .i64 0, .int .i64 0, .string ⟨#[]⟩, .bool false]
  have h1 := h.below hbx
  have HT := there_any i h1
  cases ht : s.there i with
  | false =>
    rw [ht] at HT
    have HT := Lib.hid HT
    have HE := Lib.hid (show s.at i = (.zero, false) from if_neg (by rw [ht]; decide))
    clear ht h1 hbx
    go_enter Tryd.func21, Tryd.ntmps21
    go_wp2_with (refine wpList_blk_alloc rfl rfl Tryd.dgZ w.heap.size rfl ?_)
    refine HT.out.mono ?_
    rintro e w' ⟨rfl, rfl⟩
    go_wp2_with (first
      | (refine wpList_blk_build (cs := #[.int .i64 0, .int .i64 0, .string ⟨#[]⟩, .bool false]) rfl #[] rfl Tryd.dgB ?_)
      | (refine wpList_blk_store rfl (.tmp 4) (.tmp 10) rfl rfl rfl hZ Tryd.dgI rfl (dg_one .zero) ?_; intro w4 hB4 hK4 hsz4))
    refine bodyPost_ret (results_row1 rfl _ _ w.heap.size 35 _ (0, 0) _ rfl hB4 Tryd.underlying35 rfl Tryd.dgI) rfl ⟨by rw [HE.out]; rfl, alloc_store hK4⟩
  | true =>
    obtain ⟨k, rfl, hk⟩ := there_t ht
    rw [ht] at HT
    have HT := Lib.hid HT
    have HE := Lib.hid (show s.at k = (s.l[k], true) from by rw [NS.at, if_pos ht, Int.toNat_natCast, List.getD_eq_getElem?_getD, List.getElem?_eq_getElem hk]; rfl)
    have cv := h1.cv
    obtain ⟨a, c, rfl, hr⟩ := h1.sl
    obtain ⟨bs, off, rfl, _⟩ := Rd.addr hr (by omega)
    obtain ⟨c0, c1, c2, c3⟩ := hr.at k hk
    have hkI : (k : Int) < s.l.length := by omega
    clear ht h1 hbx hr
    generalize s.l[k] = x at *
    go_enter Tryd.func21, Tryd.ntmps21
    go_wp2_with (refine wpList_blk_alloc rfl rfl Tryd.dgZ w.heap.size rfl ?_)
    refine HT.out.mono ?_
    rintro e w' ⟨rfl, rfl⟩
    go_wp2_with (refine wpList_blk_store (cs := #[.int .i64 x.src, .int .i64 x.dst, .string x.data, .bool x.torn]) rfl (.tmp 4) (.tmp 17) rfl rfl rfl hZ Tryd.dgI rfl (dg_one x) ?_; intro w4 hB4 hK4 hsz4)
    refine bodyPost_ret (results_row1 rfl _ _ w.heap.size 35 _ (0, 0) _ rfl hB4 Tryd.underlying35 rfl Tryd.dgI) rfl ⟨by rw [HE.out]; rfl, alloc_store hK4⟩
end
/-- What a call of a net with the blocks O leaves. -/
def NetTo (B : Nat) (w : World) (O : Nat → Prop) (b : Nat) (t : NS) (w' : World) : Prop := ∃ O' v, NetAt B w' O' b t v ∧ KpO O w w' ∧ ∀ g, O' g → O g ∨ w.heap.size ≤ g
def NS.send (s : NS) (d : Dg) : NS × Nat :=
  if s.inn d.src = true ∧ s.inn d.dst = true then (if s.linked d.src d.dst = true then (if 4096 ≤ s.l.length then (s, 6) else ({ s with l := s.l ++ [d] }, 0)) else (s, 5)) else (s, 1)
section
variable {B : Nat} {w w1 w' : World} {O : Nat → Prop} {b : Nat} {s t : NS} {v : Value}
theorem NetTo.ofKp (h : NetAt B w' O b t v) (k : Kp b w w') : NetTo B w O b t w' := ⟨O, v, h, KpO.ofKp k h.ob, fun g hg => .inl hg⟩
theorem NetTo.same (h : NetAt B w O b s v) : NetTo B w O b s w := NetTo.ofKp h (Kp.refl _ _)
theorem NetTo.pre (h : NetTo B w1 O b t w') (k : Below w.heap.size w w1) : NetTo B w O b t w' := by
  obtain ⟨O', v, h1, h2, h3⟩ := h
  exact ⟨O', v, h1, (KpO.ofBelow k).trans h2 (fun g hg => .inl hg), fun g hg => (h3 g hg).imp id (fun h => Nat.le_trans k.size h)⟩
/-- The row is another one, in its old block or in a new one. -/
theorem NetAt.newRow {w4 : World} {u : Value} {l : List Dg} (h : NetAt B w O b s v) (hk : KpO (fun g => g = b ∨ v.ownBlock = some g) w w4) (hb : BlkAt w4 b 55 (netC s v))
    (ho : w4.ownsRow B 35 4 u l.length (l.flatMap dgF)) (hu : u.ownBlock = v.ownBlock ∨ ∀ g, u.ownBlock = some g → w.heap.size ≤ g) : NetTo B w O b { s with l := l } (w4.setCell ⟨b, 65, none⟩ u) := by
  have hks : KpO (fun g => g = b ∨ v.ownBlock = some g) w (w4.setCell ⟨b, 65, none⟩ u) := hk.setCell _ (.inl rfl) _
  have hblk := hb.set 65 u
  rw [netC_row s v u l] at hblk
  have hub : ∀ g, u.ownBlock = some g → g ≠ b := fun g hg e => by
    rcases hu with hu | hu
    · exact h.nb (by rw [← hu, hg, e])
    · have := hu g hg; have := h.lt; omega
  refine ⟨fun g => O g ∨ u.ownBlock = some g, u, ⟨hblk, own_keep ho fun g hg _ => Below.heap_setCell _ _ _ _ (fun e => hub g hg e), fun g hg => .inr hg, fun hg => hub b hg rfl, .inl h.ob, fun g hg => ?_, fun g hg => ?_⟩, ⟨hks.os, hks.tape, hks.output, hks.size, fun k hk hn => hks.block k hk (fun hc => ?_)⟩, fun g hg => ?_⟩
  · rcases hg with hg | hg
    · exact h.lo g hg
    · exact (ho.lt g hg).1
  · rcases hg with hg | hg
    · exact Nat.lt_of_lt_of_le (h.hi g hg) hks.size
    · exact Nat.lt_of_lt_of_le (ho.lt g hg).2 (by simp [World.setCell])
  · rcases hc with rfl | hc
    · exact hn h.ob
    · exact hn (h.own k hc)
  · rcases hg with hg | hg
    · exact .inl hg
    · rcases hu with hu | hu
      · exact .inl (h.own g (by rw [← hu, hg]))
      · exact .inr (hu g hg)
theorem Rd.blk1 {w : World} {e : TypeId} {cs : List Value} {sz b : Nat} (hb : b = w.heap.size) (hs : cs.length = sz) : Rd (w.alloc (.cells cs.toArray e)) sz (some ⟨b, 0, none⟩) 1 1 cs := by
  subst hb
  refine ⟨⟨by omega, Nat.le_refl _, by decide, fun h => by cases h⟩, .inr ⟨_, 0, rfl, by simp, fun j u' hu => ?_⟩⟩
  rw [World.cell?_alloc_at _ _ _ _ rfl]
  simpa using hu
theorem dgF_one (x : Dg) : ∀ u ∈ dgF x, u.oneCell' = true := by
  intro u hu
  simp [dgF] at hu
  rcases hu with rfl | rfl | rfl | rfl <;> rfl
theorem NetAt.grownCells {w4 : World} (h : NetAt B w O b s v) (hg : w.grownBy w4 v.ownBlock) : w4.cell? ⟨b, 65, none⟩ = some v ∧ w4.frozen? ⟨b, 65, none⟩ = false := by
  have hb4 : BlkAt w4 b 55 (netC s v) := (hg.block b h.lt (fun e => h.nb e.symm)).trans h.blk
  exact ⟨hb4.cell ((rowT_tl (pre := [.int .i64 s.n]) (f := fun i => [.int .u64 (s.links i)]) (n := 64) (sz := 1) (tl := [v]) (fun _ => rfl) 0).trans rfl), hb4.fz _⟩
theorem NetAt.appended {w4 : World} {u : Value} (d : Dg) (h : NetAt B w O b s v) (hg : w.grownBy w4 v.ownBlock) (ho : w4.ownsRow B 35 4 u (s.l.length + 1) (s.l.flatMap dgF ++ dgF d)) (hu : u.ownBlock = v.ownBlock ∨ ∀ g, u.ownBlock = some g → w.heap.size ≤ g) :
    NetTo B w O b { s with l := s.l ++ [d] } (w4.setCell ⟨b, 65, none⟩ u) := by
  have hb4 : BlkAt w4 b 55 (netC s v) := (hg.block b h.lt (fun e => h.nb e.symm)).trans h.blk
  refine h.newRow (KpO.ofGrown hg (fun k e => .inr e)) hb4 ?_ hu
  rw [List.length_append, List.flatMap_append]
  have e2 : [d].flatMap dgF = dgF d := by simp
  rw [e2]
  exact ho
set_option maxHeartbeats 3200000 in
set_option maxRecDepth 100000 in
theorem send_any (d : Dg) (hs : s.Ok) (h : NetAt B w O b s v) :
    Calls Tryd.prog 18 #[.pointer (some ⟨b, 0, none⟩), .agg #[.int .i64 d.src, .int .i64 d.dst, .string d.data, .bool d.torn]] w fun e w' => e = .returned (.int .i64 (s.send d).2) ∧ NetTo B w O b (s.send d).1 w' := by
  have hbx : Below w.heap.size w (w.alloc (.cells #[.int .i64 d.src, .int .i64 d.dst, .string d.data, .bool d.torn] 35)) := (Below.refl _ _).alloc (Nat.le_refl _) _
  have h1 := h.below hbx
  have HP1 := process_any d.src h1
  have HP2 := process_any d.dst h1
  have HE : s.send d = if s.inn d.src = true ∧ s.inn d.dst = true then (if s.linked d.src d.dst = true then (if 4096 ≤ s.l.length then (s, 6) else ({ s with l := s.l ++ [d] }, 0)) else (s, 5)) else (s, 1) := rfl
  have HSame := Lib.hid ((NetTo.same h1).pre hbx)
  cases hp1 : s.inn d.src with
  | false =>
    rw [hp1] at HP1
    replace HP1 := Lib.hid HP1
    have HE2 := Lib.hid (HE.trans (if_neg (by rw [hp1]; simp)))
    clear HE hp1 h1 HP2
    (go_enter Tryd.func18, Tryd.ntmps18)
    (go_wp2_with fail; refine (HP1.out).mono ?_; rintro e w' ⟨rfl, rfl⟩)
    go_wp2
    go_ret
    exact ⟨by rw [HE2.out]; rfl, by rw [HE2.out]; exact HSame.out⟩
  | true =>
  cases hp2 : s.inn d.dst with
  | false =>
    rw [hp1] at HP1
    rw [hp2] at HP2
    replace HP1 := Lib.hid HP1
    replace HP2 := Lib.hid HP2
    have HE2 := Lib.hid (HE.trans (if_neg (by rw [hp2]; simp)))
    clear HE hp1 hp2 h1
    (go_enter Tryd.func18, Tryd.ntmps18)
    (go_wp2_with fail; refine (HP1.out).mono ?_; rintro e w' ⟨rfl, rfl⟩)
    (go_wp2_with fail; refine (HP2.out).mono ?_; rintro e w' ⟨rfl, rfl⟩)
    go_wp2
    go_ret
    exact ⟨by rw [HE2.out]; rfl, by rw [HE2.out]; exact HSame.out⟩
  | true =>
    rw [hp1] at HP1
    rw [hp2] at HP2
    replace HP1 := Lib.hid HP1
    replace HP2 := Lib.hid HP2
    replace HE := HE.trans (if_pos ⟨hp1, hp2⟩)
    have HL := linked_any d.src d.dst hs h1
    clear hp1 hp2
    cases hl : s.linked d.src d.dst with
    | false =>
      rw [hl] at HL
      replace HL := Lib.hid HL
      have HE2 := Lib.hid (HE.trans (if_neg (by rw [hl]; simp)))
      clear HE hl h1
      (go_enter Tryd.func18, Tryd.ntmps18)
      (go_wp2_with fail; refine (HP1.out).mono ?_; rintro e w' ⟨rfl, rfl⟩)
      (go_wp2_with fail; refine (HP2.out).mono ?_; rintro e w' ⟨rfl, rfl⟩)
      (go_wp2_with fail; refine (HL.out).mono ?_; rintro e w' ⟨rfl, rfl⟩)
      go_wp2
      go_ret
      exact ⟨by rw [HE2.out]; rfl, by rw [HE2.out]; exact HSame.out⟩
    | true =>
      rw [hl] at HL
      replace HL := Lib.hid HL
      replace HE := HE.trans (if_pos hl)
      have cv := h1.cv
      obtain ⟨a, c, rfl, hr⟩ := h1.sl
      by_cases hfull : 4096 ≤ s.l.length
      · have HE2 := Lib.hid (HE.trans (if_pos hfull))
        have hfI : (4096 : Int) ≤ s.l.length := by omega
        clear HE hl h1 hr
        (go_enter Tryd.func18, Tryd.ntmps18)
        (go_wp2_with fail; refine (HP1.out).mono ?_; rintro e w' ⟨rfl, rfl⟩)
        (go_wp2_with fail; refine (HP2.out).mono ?_; rintro e w' ⟨rfl, rfl⟩)
        (go_wp2_with fail; refine (HL.out).mono ?_; rintro e w' ⟨rfl, rfl⟩)
        go_wp2
        go_ret
        exact ⟨by rw [HE2.out]; rfl, by rw [HE2.out]; exact HSame.out⟩
      · have HE2 := Lib.hid (HE.trans (if_neg hfull))
        have hfI : ¬ (4096 : Int) ≤ s.l.length := by omega
        have hlo : B ≤ w.heap.size := Nat.le_trans (h.lo b h.ob) (Nat.le_of_lt h.lt)
        have hA := BlkAt.new w 35 #[.int .i64 d.src, .int .i64 d.dst, .string d.data, .bool d.torn]
        clear HE hl
        (go_enter Tryd.func18, Tryd.ntmps18)
        (go_wp2_with fail; refine (HP1.out).mono ?_; rintro e w' ⟨rfl, rfl⟩)
        (go_wp2_with fail; refine (HP2.out).mono ?_; rintro e w' ⟨rfl, rfl⟩)
        (go_wp2_with fail; refine (HL.out).mono ?_; rintro e w' ⟨rfl, rfl⟩)
        go_wp2
        generalize w.alloc _ = w1 at *
        obtain ⟨d0, d1, d2, d3⟩ : w1.cell? ⟨w.heap.size, 0, none⟩ = some (.int .i64 d.src) ∧ w1.cell? ⟨w.heap.size, 1, none⟩ = some (.int .i64 d.dst) ∧ w1.cell? ⟨w.heap.size, 2, none⟩ = some (.string d.data) ∧ w1.cell? ⟨w.heap.size, 3, none⟩ = some (.bool d.torn) := ⟨hA.cell rfl, hA.cell rfl, hA.cell rfl, hA.cell rfl⟩
        have hbA : Below w1.heap.size w1 (w1.alloc (.cells #[.int .i64 d.src, .int .i64 d.dst, .string d.data, .bool d.torn] 35)).drew := ((Below.refl _ _).alloc (Nat.le_refl _) _).drew
        have h2 := h1.below hbA
        have o6 := Lib.hid h2.row
        have hlv : Hid (Rd (w1.alloc (.cells #[.int .i64 d.src, .int .i64 d.dst, .string d.data, .bool d.torn] 35)).drew 4 (some ⟨w1.heap.size, 0, none⟩) 1 1 (dgF d)) := Lib.hid (Rd.below (Rd.blk1 (w := w1) (cs := dgF d) rfl rfl) (Below.refl _ _).drew (Nat.le_refl _))
        have hsz1 : B ≤ (w1.alloc (.cells #[.int .i64 d.src, .int .i64 d.dst, .string d.data, .bool d.torn] 35)).drew.heap.size := Nat.le_trans (Nat.le_trans hlo hbx.size) hbA.size
        have hX := Lib.hid (fun (w4 : World) (u : Value) hg ho hu => h2.appended (w4 := w4) (u := u) d hg ho hu)
        have hF := Lib.hid (fun (w4 : World) hg => h2.grownCells (w4 := w4) hg)
        have HPre := Lib.hid (fun t w' (k : NetTo B (w1.alloc (.cells #[.int .i64 d.src, .int .i64 d.dst, .string d.data, .bool d.torn] 35)).drew O b t w') => (k.pre hbA).pre hbx)
        have cvA : (w1.alloc (.cells #[.int .i64 d.src, .int .i64 d.dst, .string d.data, .bool d.torn] 35)).cell? ⟨b, 65, none⟩ = some (.slice a s.l.length c) := h2.cv
        have hneA := World.new_ne w1 _ cv
        clear h1 h2 hbA hr
        go_region_law (first
          | (refine step_append_apart (base := B) (v := .slice a s.l.length c) (n := s.l.length) (xs := s.l.flatMap dgF) (b := w1.heap.size) (off := 0) (m := 1) (c := 1) (news := dgF d) Tryd.dgE rfl (.tmp 37) (.tmp 39) rfl (by rfl) o6.out (by rfl) hlv.out (by decide) (dgF_one d) (by unfold maxLen; omega) (by omega) hsz1 ?_; intro v' w4 hown' hg' hv'; obtain ⟨s4, f4⟩ := hF.out w4 hg'; have HY := Lib.hid (HPre.out _ _ (hX.out w4 v' hg' hown' hv')); obtain ⟨a4, c4, rfl, _⟩ := Rd.own hown'; clear hown' hg' hv'))
        all_goals
          go_wp2
          go_ret
          exact ⟨by rw [HE2.out]; rfl, by rw [HE2.out]; exact HY.out⟩
end
end Go.Proofs.YtmlkmonapnebiaaDoorR
