/- log: the walk of PrintItem, of applications' items and of chunks -/
import Derived.Test.YtdfnpaaejjediaaLogG
namespace Go.Proofs.Ytdfnpaaejjediaa
open Go.RowKit

section
variable {B : Nat} {w W W' : World} {b : Nat} {l : List Int} {cs : Array Value} {t e : TypeId} {v : Value} {n sz : Nat} {xs : List Value}
theorem PiS.grown (h : PiS w W cs) (ho : W.ownsRow w.heap.size 5 1 v n xs) (hg : W.grownBy W' v.ownBlock) : PiS w W' cs :=
  ⟨belG h.bel hg h.bel.size (fun k hk => (ho.lt k hk).1), blk_grown h.A hg (own_ne ho h.A (by decide)), blk_grown h.T hg (own_ne ho h.T (by decide)), blk_grown h.E hg (own_ne ho h.E (by decide))⟩
/-- A row was appended to the writer's bytes: the writer's cell is written. -/
theorem WrAt.app {v' : Value} {m : List Int} {k : Nat} (hb : BlkAt W' b 70 #[v]) (ho : W'.ownsRow B 5 1 v' (l.length + k) (l.map (Value.int .u8) ++ m.map (Value.int .u8))) (hk : k = m.length) (hB : B ≤ b) : WrAt B (W'.setCell ⟨b, 0, none⟩ v') b (l ++ m) ∧ Kp b W' (W'.setCell ⟨b, 0, none⟩ v') := by
  subst hk
  have hn := own_ne ho hb (by decide)
  have hK := (Kp.refl b W').setCell ⟨b, 0, none⟩ rfl v'
  rw [← List.map_append, ← List.length_append] at ho
  exact ⟨⟨v', hb.set 0 v', own_keep ho fun g hg _ => hK.block g (ho.lt g hg).2 (fun e => hn (by rw [hg, e])), hn, hB⟩, hK⟩
end
/-- A region that never leaves but at its end: where a function defers, a region that draws its order is gone through with this. -/
def OnlyN (K : Act → World → Prop) : Exit → Act → World → Prop
  | .normal, a, w => K a w
  | _, _, _ => False
theorem wp_onlyN {P : Program} {c : Code} {K : Act → World → Prop} {Q : Exit → Act → World → Prop} {a : Act} {w : World} (h : c.wp P (OnlyN K) a w) : c.wp P (Exit.then K Q) a w :=
  wp_mono h fun e a w hq => by cases e <;> first | exact hq | exact hq.elim
theorem onlyN_at {K : Act → World → Prop} {a : Act} {w : World} (h : K a w) : OnlyN K .normal a w := h
set_option maxHeartbeats 3200000 in
set_option maxRecDepth 100000 in
theorem pitem1 (x : It) (D : ByteArray) (pa : Option Addr) (pn pc : Nat) (w : World) (hd : x.data = bI D) (hD : D.size ≤ 5000) (hk : x.kind = 1) : Calls Try.prog 11 #[.agg #[.int .i64 x.kind, .string D, .int .u32 x.inc, .int .u64 x.holds, .bool x.has, .bool x.direct, .int .u64 x.rc.last.num, .int .u64 x.rc.last.ce, .int .i64 x.rc.last.cr, .int .u64 x.rc.last.mem, .slice pa pn pc, .int .u64 x.view.num, .int .u64 x.view.ce, .int .i64 x.view.cr, .int .u64 x.view.mem, .int .u64 x.number, .int .i64 x.index, .int .i64 x.total]] w fun e w' => e = .returned (.tuple #[.string (prI x), .int .i64 (itE x)]) ∧ Below w.heap.size w w' := by
  (have hmf : ∀ (fn : Fn) (first cap : Array Value) (w : World), (Instr.makeFunc fn first cap).run Try.prog w = .ok (.func fn first cap) w := fun _ _ _ _ => rfl)
  have HE : itE x = if 1024 < 1 + x.data.length then 3 else 0 := by unfold itE; rw [if_neg (by omega), if_neg (by omega), if_neg (by omega), if_neg (by omega)]
  have HB := itB1 hk
  rw [hd] at HB HE
  replace HB := Lib.hid HB
  rw [bI_len] at HE
  replace HE := Lib.hid HE
  rw [hk]
  clear hk hd
  obtain ⟨wS, hwS, PS, HW⟩ := PiS.start w #[.int .i64 1, .string D, .int .u32 x.inc, .int .u64 x.holds, .bool x.has, .bool x.direct, .int .u64 x.rc.last.num, .int .u64 x.rc.last.ce, .int .i64 x.rc.last.cr, .int .u64 x.rc.last.mem, .slice pa pn pc, .int .u64 x.view.num, .int .u64 x.view.ce, .int .i64 x.view.cr, .int .u64 x.view.mem, .int .u64 x.number, .int .i64 x.index, .int .i64 x.total]
  replace hwS := Lib.hid hwS
  (obtain ⟨⟨c0, c1, c2, c3, c4, c5⟩, ⟨c6, c7, c8, c9, c10⟩, ⟨c11, c12, c13, c14⟩, c15, c16, c17⟩ := icells PS.A)
  go_enter_defers Try.func11, Try.ntmps11
  go_wp2_with fail
  rw [← hwS.out]
  refine (bad_f (by first | (simp; done) | (simp; omega)) 10 _).mono ?_
  rintro e w' ⟨rfl, rfl⟩
  (go_wp2_with fail; (refine (wnum1 _ HW (by first | omega | (simp only [List.length_append, beL_len, vwB_len, recB_len, List.length_nil]; omega)) (by omega) (by omega)).mono ?_; rintro e wa ⟨rfl, hwa, kwa⟩; have Pwa := PS.keep kwa))
  (clear c0 c1 c2 c3 c4 c5 c6 c7 c8 c9 c10 c11 c12 c13 c14 c15 c16 c17)
  (obtain ⟨⟨c0, c1, c2, c3, c4, c5⟩, ⟨c6, c7, c8, c9, c10⟩, ⟨c11, c12, c13, c14⟩, c15, c16, c17⟩ := icells Pwa.A)
  obtain ⟨v, q1, q2, q3, q4⟩ := hwa
  obtain ⟨va, vc, rfl, _⟩ := Rd.own q2
  have hl1 : ([] ++ beL 1 1 1 : List Int).length = 1 := rfl
  rw [hl1] at q1 q2 q3
  have q0 : wa.cell? ⟨w.heap.size + 1 + 1 + 1, 0, none⟩ = some (.slice va 1 vc) := q1.cell rfl
  have o6 := Lib.hid (own_belowB q2 (Below.refl _ _).drew)
  have hsz := Pwa.bel.drew.size
  have hF := Lib.hid (fun (w4 : World) (hg : wa.drew.grownBy w4 (Value.slice va 1 vc).ownBlock) => show BlkAt w4 (w.heap.size + 1 + 1 + 1) 70 #[.slice va 1 vc] ∧ PiS w w4 _ from ⟨blk_grown (W := wa.drew) q1 hg q3, (Pwa.below (Below.refl _ _).drew).grown o6.out hg⟩)
  go_wp2
  refine wp_onlyN ?_
  go_region_law (first
    | (refine step_append_str (base := w.heap.size) (v := .slice va 1 vc) (n := 1) (xs := (beL 1 1 1).map (Value.int .u8)) (s := D) Try.byteE Try.underlying9 rfl (.tmp 96) (.tmp 98) rfl (by rfl) o6.out (by rfl) (by unfold maxLen; omega) (by omega) hsz ?_; intro v' w4 hown' hg'; obtain ⟨va', vc', rfl, _⟩ := Rd.own hown'; obtain ⟨q5, P4⟩ := hF.out _ hg'; have q6 : w4.cell? ⟨w.heap.size + 1 + 1 + 1, 0, none⟩ = some (.slice va 1 vc) := q5.cell rfl; have q7 := q5.fz 0; have HO := Lib.hid hown'; clear hown' hg'))
  all_goals refine onlyN_at ?_
  all_goals go_wp2_with fail
  all_goals
    have hX := WrAt.app q5 HO.out (by rw [bI_len]) q4
    clear q6 q7
    generalize w4.setCell _ _ = w6 at *
    obtain ⟨hX1, hX2⟩ := hX
    have P6 := P4.keep hX2
    clear hF HO q5 P4 hX2 o6 q0 q1 q2 q3
    by_cases hg : 1024 < 1 + D.size
    · have HE2 := Lib.hid (HE.out.trans (if_pos hg))
      have HP := Lib.hid (show prI x = ⟨#[]⟩ from if_neg (by rw [HE2.out]; decide))
      refine (bad_t (by first | (simp; done) | (simp; omega)) 3 _).mono ?_
      rintro e w' ⟨rfl, rfl⟩
      (unfold pan; (refine leaves_cons (f := 29) (args := #[.pointer (some ⟨w.heap.size + 1, 0, none⟩), .pointer (some ⟨w.heap.size + 1 + 1, 0, none⟩)]) (by simp) (by simp [go_sem]) ?_); refine (catchI_err _ _ _ _ _ (by decide) [] _ P6.res).mono ?_; rintro e u' w'' ⟨rfl, rfl, rfl⟩; obtain ⟨d0, d1, _, _, _⟩ := P6.res.set (.string ⟨#[]⟩) (.int .i64 3); have hbF := P6.fin (.string ⟨#[]⟩) (.int .i64 3); simp [Leaves, settle, results, Try.results11, go_sem, d0, d1]; exact ⟨⟨HP.out.symm, HE2.out.symm⟩, hbF⟩)
    · have HE := Lib.hid (HE.out.trans (if_neg hg))
      have HP := Lib.hid (show prI x = strOfNums (itB x) from if_pos HE.out)
      refine (bad_f (by first | (simp; done) | (simp; omega)) 3 _).mono ?_
      rintro e w' ⟨rfl, rfl⟩
      obtain ⟨sa, sn, sc, s0, hr, hn⟩ := hX1.str
      (have R3 := P6.res; obtain ⟨t0, t1, t2, t3, _⟩ := P6.res; go_wp2_with (first | (go_at_call 30; refine (bad_f (by first | (simp; done) | (simp; omega)) 3 _).mono ?_; rintro e w' ⟨rfl, rfl⟩) | (refine wpList_bytes_str (t := 68) (d := 9) (e := 5) Try.underlying68 Try.underlying5 Try.underlying9 rfl (.tmp 112) rfl rfl hr ?_; intro S hS hS1 hS2)); (refine leaves_cons (f := 29) (args := #[.pointer (some ⟨w.heap.size + 1, 0, none⟩), .pointer (some ⟨w.heap.size + 1 + 1, 0, none⟩)]) (by simp) (by simp [go_sem]) ?_); refine (catchI_idle _ _ _).mono ?_; rintro e u' w'' ⟨rfl, rfl, rfl⟩; obtain ⟨d0, d1, _, _, _⟩ := R3.set (.string S) (.int .i64 0); have hbF := P6.fin (.string S) (.int .i64 0); have hS2 : S = prI x := (by (rw [hS.out, HP.out, HB.out]) <;> simp); simp [Leaves, settle, results, Try.results11, go_sem, d0, d1]; exact ⟨⟨hS2, HE.out.symm⟩, hbF⟩)
set_option maxHeartbeats 6400000 in
set_option maxRecDepth 100000 in
theorem pitem4 (x : It) (D : ByteArray) (pa : Option Addr) (pn pc : Nat) (w : World) (hw : x.Wf) (hd : x.data = bI D) (hD : D.size ≤ 5000) (hk : x.kind = 4) : Calls Try.prog 11 #[.agg #[.int .i64 x.kind, .string D, .int .u32 x.inc, .int .u64 x.holds, .bool x.has, .bool x.direct, .int .u64 x.rc.last.num, .int .u64 x.rc.last.ce, .int .i64 x.rc.last.cr, .int .u64 x.rc.last.mem, .slice pa pn pc, .int .u64 x.view.num, .int .u64 x.view.ce, .int .i64 x.view.cr, .int .u64 x.view.mem, .int .u64 x.number, .int .i64 x.index, .int .i64 x.total]] w fun e w' => e = .returned (.tuple #[.string (prI x), .int .i64 (itE x)]) ∧ Below w.heap.size w w' := by
  (have hmf : ∀ (fn : Fn) (first cap : Array Value) (w : World), (Instr.makeFunc fn first cap).run Try.prog w = .ok (.func fn first cap) w := fun _ _ _ _ => rfl)
  have HE : itE x = if rgB x = true then (if 1024 < 13 + x.data.length then 3 else 0) else 1 := by unfold itE; rw [if_neg (by omega), if_neg (by omega), if_neg (by omega), if_pos hk]
  have HB := itB4 hk
  rw [hd] at HB HE
  rw [bI_len] at HE
  have hnum := hw.2.2.2.2.1
  rw [hk]
  clear hk hd hw
  obtain ⟨wS, hwS, PS, HW⟩ := PiS.start w #[.int .i64 4, .string D, .int .u32 x.inc, .int .u64 x.holds, .bool x.has, .bool x.direct, .int .u64 x.rc.last.num, .int .u64 x.rc.last.ce, .int .i64 x.rc.last.cr, .int .u64 x.rc.last.mem, .slice pa pn pc, .int .u64 x.view.num, .int .u64 x.view.ce, .int .i64 x.view.cr, .int .u64 x.view.mem, .int .u64 x.number, .int .i64 x.index, .int .i64 x.total]
  replace hwS := Lib.hid hwS
  (obtain ⟨⟨c0, c1, c2, c3, c4, c5⟩, ⟨c6, c7, c8, c9, c10⟩, ⟨c11, c12, c13, c14⟩, c15, c16, c17⟩ := icells PS.A)
  cases hr : rgB x with
  | false =>
    rw [hr, if_neg (by decide)] at HE
    replace HE := Lib.hid HE
    have HP := Lib.hid (show prI x = ⟨#[]⟩ from if_neg (by rw [HE.out]; decide))
    have hno : ¬ (0 ≤ x.index ∧ x.index ≤ 65535 ∧ 0 ≤ x.total ∧ x.total ≤ 65535) := of_decide_eq_false hr
    clear hr HB
    have hcase : x.index < 0 ∨ 65535 < x.index ∨ (0 ≤ x.index ∧ x.index ≤ 65535 ∧ x.total < 0) ∨ (0 ≤ x.index ∧ x.index ≤ 65535 ∧ 0 ≤ x.total ∧ 65535 < x.total) := by omega
    clear hno
    rcases hcase with h1 | h1 | ⟨h1, h2, h3⟩ | ⟨h1, h2, h3, h4⟩
    all_goals
      go_enter_defers Try.func11, Try.ntmps11
      go_wp2_with fail
      rw [← hwS.out]
      refine (bad_f (by first | (simp; done) | (simp; omega)) 10 _).mono ?_
      rintro e w' ⟨rfl, rfl⟩
      (go_wp2_with fail; (refine (wnum1 _ HW (by first | omega | (simp only [List.length_append, beL_len, vwB_len, recB_len, List.length_nil]; omega)) (by omega) (by omega)).mono ?_; rintro e wa ⟨rfl, hwa, kwa⟩; have Pwa := PS.keep kwa))
      (clear c0 c1 c2 c3 c4 c5 c6 c7 c8 c9 c10 c11 c12 c13 c14 c15 c16 c17)
      (obtain ⟨⟨c0, c1, c2, c3, c4, c5⟩, ⟨c6, c7, c8, c9, c10⟩, ⟨c11, c12, c13, c14⟩, c15, c16, c17⟩ := icells Pwa.A)
      go_wp2_with fail
      refine (bad_t (by first | (simp; done) | (simp; omega)) 1 _).mono ?_
      rintro e w' ⟨rfl, rfl⟩
      (unfold pan; (refine leaves_cons (f := 29) (args := #[.pointer (some ⟨w.heap.size + 1, 0, none⟩), .pointer (some ⟨w.heap.size + 1 + 1, 0, none⟩)]) (by simp) (by simp [go_sem]) ?_); refine (catchI_err _ _ _ _ _ (by decide) [] _ Pwa.res).mono ?_; rintro e u' w'' ⟨rfl, rfl, rfl⟩; obtain ⟨d0, d1, _, _, _⟩ := Pwa.res.set (.string ⟨#[]⟩) (.int .i64 1); have hbF := Pwa.fin (.string ⟨#[]⟩) (.int .i64 1); simp [Leaves, settle, results, Try.results11, go_sem, d0, d1]; exact ⟨⟨HP.out.symm, HE.out.symm⟩, hbF⟩)
  | true =>
    rw [hr, if_pos rfl] at HE
    replace HE := Lib.hid HE
    replace HB := Lib.hid HB
    obtain ⟨h1, h2, h3, h4⟩ : 0 ≤ x.index ∧ x.index ≤ 65535 ∧ 0 ≤ x.total ∧ x.total ≤ 65535 := of_decide_eq_true hr
    clear hr
    go_enter_defers Try.func11, Try.ntmps11
    go_wp2_with fail
    rw [← hwS.out]
    refine (bad_f (by first | (simp; done) | (simp; omega)) 10 _).mono ?_
    rintro e w' ⟨rfl, rfl⟩
    (go_wp2_with fail; (refine (wnum1 _ HW (by first | omega | (simp only [List.length_append, beL_len, vwB_len, recB_len, List.length_nil]; omega)) (by omega) (by omega)).mono ?_; rintro e wa ⟨rfl, hwa, kwa⟩; have Pwa := PS.keep kwa))
    (clear c0 c1 c2 c3 c4 c5 c6 c7 c8 c9 c10 c11 c12 c13 c14 c15 c16 c17)
    (obtain ⟨⟨c0, c1, c2, c3, c4, c5⟩, ⟨c6, c7, c8, c9, c10⟩, ⟨c11, c12, c13, c14⟩, c15, c16, c17⟩ := icells Pwa.A)
    go_wp2_with fail
    refine (bad_f (by first | (simp; done) | (simp; omega)) 1 _).mono ?_
    rintro e w' ⟨rfl, rfl⟩
    (go_wp2_with fail; (refine (wnum8 _ hwa (by first | omega | (simp only [List.length_append, beL_len, vwB_len, recB_len, List.length_nil]; omega)) (by omega) (by omega)).mono ?_; rintro e wb ⟨rfl, hwb, kwb⟩; have Pwb := Pwa.keep kwb))
    (clear c0 c1 c2 c3 c4 c5 c6 c7 c8 c9 c10 c11 c12 c13 c14 c15 c16 c17)
    (obtain ⟨⟨c0, c1, c2, c3, c4, c5⟩, ⟨c6, c7, c8, c9, c10⟩, ⟨c11, c12, c13, c14⟩, c15, c16, c17⟩ := icells Pwb.A)
    (go_wp2_with fail; (refine (wnum2 _ hwb (by first | omega | (simp only [List.length_append, beL_len, vwB_len, recB_len, List.length_nil]; omega)) (by omega) (by omega)).mono ?_; rintro e wc ⟨rfl, hwc, kwc⟩; have Pwc := Pwb.keep kwc))
    (clear c0 c1 c2 c3 c4 c5 c6 c7 c8 c9 c10 c11 c12 c13 c14 c15 c16 c17)
    (obtain ⟨⟨c0, c1, c2, c3, c4, c5⟩, ⟨c6, c7, c8, c9, c10⟩, ⟨c11, c12, c13, c14⟩, c15, c16, c17⟩ := icells Pwc.A)
    (go_wp2_with fail; (refine (wnum2 _ hwc (by first | omega | (simp only [List.length_append, beL_len, vwB_len, recB_len, List.length_nil]; omega)) (by omega) (by omega)).mono ?_; rintro e wd ⟨rfl, hwd, kwd⟩; have Pwd := Pwc.keep kwd))
    (clear c0 c1 c2 c3 c4 c5 c6 c7 c8 c9 c10 c11 c12 c13 c14 c15 c16 c17)
    (obtain ⟨⟨c0, c1, c2, c3, c4, c5⟩, ⟨c6, c7, c8, c9, c10⟩, ⟨c11, c12, c13, c14⟩, c15, c16, c17⟩ := icells Pwd.A)
    obtain ⟨v, q1, q2, q3, q4⟩ := hwd
    obtain ⟨va, vc, rfl, _⟩ := Rd.own q2
    have hl1 : ([] ++ beL 4 1 1 ++ beL x.number 8 8 ++ beL x.index 2 2 ++ beL x.total 2 2 : List Int).length = 13 := by simp only [List.length_append, beL_len, List.length_nil]
    rw [hl1] at q1 q2 q3
    replace hl1 := Lib.hid hl1
    generalize hL : ([] ++ beL 4 1 1 ++ beL x.number 8 8 ++ beL x.index 2 2 ++ beL x.total 2 2 : List Int) = L at *
    replace hL := Lib.hid hL
    have q0 : wd.cell? ⟨w.heap.size + 1 + 1 + 1, 0, none⟩ = some (.slice va 13 vc) := q1.cell rfl
    have o6 := Lib.hid (own_belowB q2 (Below.refl _ _).drew)
    have hsz := Pwd.bel.drew.size
    have hF := Lib.hid (fun (w4 : World) (hg : wd.drew.grownBy w4 (Value.slice va 13 vc).ownBlock) => show BlkAt w4 (w.heap.size + 1 + 1 + 1) 70 #[.slice va 13 vc] ∧ PiS w w4 _ from ⟨blk_grown (W := wd.drew) q1 hg q3, (Pwd.below (Below.refl _ _).drew).grown o6.out hg⟩)
    go_wp2
    refine wp_onlyN ?_
    go_region_law (first
      | (refine step_append_str (base := w.heap.size) (v := .slice va 13 vc) (n := 13) (xs := L.map (Value.int .u8)) (s := D) Try.byteE Try.underlying9 rfl (.tmp 96) (.tmp 98) rfl (by rfl) o6.out (by rfl) (by unfold maxLen; omega) (by omega) hsz ?_; intro v' w4 hown' hg'; obtain ⟨va', vc', rfl, _⟩ := Rd.own hown'; obtain ⟨q5, P4⟩ := hF.out _ hg'; have q6 : w4.cell? ⟨w.heap.size + 1 + 1 + 1, 0, none⟩ = some (.slice va 13 vc) := q5.cell rfl; have q7 := q5.fz 0; have HO := Lib.hid hown'; clear hown' hg'))
    all_goals refine onlyN_at ?_
    all_goals go_wp2_with fail
    all_goals
      have hX := WrAt.app (l := L) q5 (by rw [hl1.out]; exact HO.out) (by rw [bI_len]) q4
      clear q6 q7
      generalize w4.setCell _ _ = w6 at *
      obtain ⟨hX1, hX2⟩ := hX
      have P6 := P4.keep hX2
      clear hF HO q5 P4 hX2 o6 q0 q1 q2 q3
      by_cases hg : 1024 < 13 + D.size
      · have HE2 := Lib.hid (HE.out.trans (if_pos hg))
        have HP := Lib.hid (show prI x = ⟨#[]⟩ from if_neg (by rw [HE2.out]; decide))
        refine (bad_t (by first | (simp; done) | (simp; omega)) 3 _).mono ?_
        rintro e w' ⟨rfl, rfl⟩
        (unfold pan; (refine leaves_cons (f := 29) (args := #[.pointer (some ⟨w.heap.size + 1, 0, none⟩), .pointer (some ⟨w.heap.size + 1 + 1, 0, none⟩)]) (by simp) (by simp [go_sem]) ?_); refine (catchI_err _ _ _ _ _ (by decide) [] _ P6.res).mono ?_; rintro e u' w'' ⟨rfl, rfl, rfl⟩; obtain ⟨d0, d1, _, _, _⟩ := P6.res.set (.string ⟨#[]⟩) (.int .i64 3); have hbF := P6.fin (.string ⟨#[]⟩) (.int .i64 3); simp [Leaves, settle, results, Try.results11, go_sem, d0, d1]; exact ⟨⟨HP.out.symm, HE2.out.symm⟩, hbF⟩)
      · have HE := Lib.hid (HE.out.trans (if_neg hg))
        have HP := Lib.hid (show prI x = strOfNums (itB x) from if_pos HE.out)
        have HB := Lib.hid (HB.out.trans (show _ = L ++ bI D from by rw [← hL.out]; simp only [List.append_assoc, List.nil_append]))
        refine (bad_f (by first | (simp; done) | (simp; omega)) 3 _).mono ?_
        rintro e w' ⟨rfl, rfl⟩
        obtain ⟨sa, sn, sc, s0, hr, hn⟩ := hX1.str
        (have R3 := P6.res; obtain ⟨t0, t1, t2, t3, _⟩ := P6.res; go_wp2_with (first | (go_at_call 30; refine (bad_f (by first | (simp; done) | (simp; omega)) 3 _).mono ?_; rintro e w' ⟨rfl, rfl⟩) | (refine wpList_bytes_str (t := 68) (d := 9) (e := 5) Try.underlying68 Try.underlying5 Try.underlying9 rfl (.tmp 112) rfl rfl hr ?_; intro S hS hS1 hS2)); (refine leaves_cons (f := 29) (args := #[.pointer (some ⟨w.heap.size + 1, 0, none⟩), .pointer (some ⟨w.heap.size + 1 + 1, 0, none⟩)]) (by simp) (by simp [go_sem]) ?_); refine (catchI_idle _ _ _).mono ?_; rintro e u' w'' ⟨rfl, rfl, rfl⟩; obtain ⟨d0, d1, _, _, _⟩ := R3.set (.string S) (.int .i64 0); have hbF := P6.fin (.string S) (.int .i64 0); have hS2 : S = prI x := (by (rw [hS.out, HP.out, HB.out]) <;> simp); simp [Leaves, settle, results, Try.results11, go_sem, d0, d1]; exact ⟨⟨hS2, HE.out.symm⟩, hbF⟩)
end Go.Proofs.Ytdfnpaaejjediaa
