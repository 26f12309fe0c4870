/- text: Few's sum; the length of a trace's text; its parsing (plain) -/
import Derived.Test.YtpkknhhohbobaaaDoorTxtZi
namespace Go.Proofs.YtpkknhhohbobaaaDoor
set_option linter.unusedSimpArgs false
set_option linter.unusedVariables false
open Go.RowKit Go.Sort
def few1 (e : Er) : Nat := min e.x.m.pay.length 20000 / 8 + min e.dn 20000 / 8 + min e.nn 20000 / 8 + min e.x.state.length 20000 / 16
def fewS (l : List Er) : Nat := (l.map few1).sum
theorem fewS_app (l : List Er) (e : Er) : fewS (l ++ [e]) = fewS l + few1 e := by unfold fewS; rw [List.map_append, List.sum_append]; rfl
set_option maxHeartbeats 3200000 in
set_option maxRecDepth 100000 in
theorem few2_any (a : Option Addr) (n c : Nat) (l : List Er) (w : World) (hr : Rd w 19 a n c (l.flatMap erC)) :
    Calls Tryd.prog 7 #[.slice a n c] w fun e w' => (e = .returned (.bool true) ∧ fewS l ≤ 20000 ∨ e = .returned (.bool false)) ∧ Below w.heap.size w w' := by
  have hl : Hid (l.length = n) := Lib.hid (by have := hr.length_eq; rw [flatMap_len erC_len] at this; omega)
  have hmx := hr.le_max
  have hr0 := Lib.hid hr
  clear hr
  go_enter Tryd.func7, Tryd.ntmps7
  go_wp2
  go_loopw [3, 4] (fun s i wr => ∃ (k m : Nat), k ≤ n ∧ i = .int .i64 k ∧ s = .int .i64 m ∧ m ≤ 20000 ∧ Hid (m = fewS (l.take k)) ∧ Hid (Below w.heap.size w wr)) (fun _ i _ => n - (intOf i).toNat)
  case atStart => exact ⟨0, 0, Nat.zero_le _, rfl, rfl, by decide, Lib.hid rfl, Lib.hid (Below.refl _ _)⟩
  case round =>
    obtain ⟨k, m, hk, rfl, rfl, hm, hms, hb⟩ := hrel
    obtain ⟨w1, rfl⟩ : ∃ z, z = wr := ⟨_, rfl⟩
    by_cases hkn : k < n
    · have hkI : (k : Int) < n := by omega
      have hkl : k < l.length := by rw [hl.out]; exact hkn
      obtain ⟨g, off, rfl, _⟩ := hr0.out.addr (by omega)
      have hr1 := hr0.out.below hb.out (Nat.le_refl _)
      have c1 := erC_at hr1 k hkl 11 (by decide) _ rfl
      have c2 := erC_at hr1 k hkl 12 (by decide) _ rfl
      have c3 := erC_at hr1 k hkl 17 (by decide) _ rfl
      have c4 := erC_at hr1 k hkl 18 (by decide) _ rfl
      have hts := Lib.hid (show fewS (l.take (k + 1)) = fewS (l.take k) + few1 l[k] from by rw [List.take_succ_eq_append_getElem hkl, fewS_app])
      generalize l[k] = y at *
      obtain ⟨x, da, dn, dc, na, nn, nc⟩ := y
      simp only at c1 c2 c3 c4
      have hP : Hid ((mkB x.m.pay).size = x.m.pay.length) := Lib.hid (mkB_size _)
      have hS : Hid ((mkB x.state).size = x.state.length) := Lib.hid (mkB_size _)
      generalize mkB x.m.pay = P at *
      generalize mkB x.state = S at *
      clear hr1
      have hmI : (m : Int) ≤ 20000 := by omega
      replace hm := Lib.hid hm
      go_wp2_with fail
      go_quiet (fail)
      have hbq := Lib.hid (belN hb.out nq)
      generalize w1.drewN nq = w2 at *
      obtain ⟨z, hz⟩ : ∃ z : Nat, (m : Int) + min (P.size : Int) 20000 / 8 + min (dn : Int) 20000 / 8 + min (nn : Int) 20000 / 8 + min (S.size : Int) 20000 / 16 = z := ⟨((m : Int) + min (P.size : Int) 20000 / 8 + min (dn : Int) 20000 / 8 + min (nn : Int) 20000 / 8 + min (S.size : Int) 20000 / 16).toNat, by omega⟩
      have hzz : Hid (z = fewS (l.take (k + 1))) := Lib.hid (by
        have h1 := hP.out
        have h2 := hS.out
        have h3 := hms.out
        rw [hts.out, ← h3]
        show z = m + (min x.m.pay.length 20000 / 8 + min dn 20000 / 8 + min nn 20000 / 8 + min x.state.length 20000 / 16)
        omega)
      rw [hz]
      clear hz c1 c2 c3 c4 hmI hm hms hts
      by_cases h5 : 500 ≤ k
      · have h5I : (500 : Int) ≤ k := by omega
        clear h5
        go_wp2
        all_goals
          go_ret
          exact ⟨.inr rfl, hbq.out⟩
      · have h5I : ¬ (500 : Int) ≤ k := by omega
        clear h5
        by_cases h6 : z ≤ 20000
        · have h6I : ¬ (20000 : Int) < z := by omega
          replace h6 := Lib.hid h6
          go_wp2
          go_roundw
          case rel => exact ⟨k + 1, z, by omega, by go_num, by go_num, h6.out, hzz, hbq⟩
          case measure => simp [intOf]; omega
        · have h6I : (20000 : Int) < z := by omega
          clear h6
          go_wp2
          go_ret
          exact ⟨.inr rfl, hbq.out⟩
    · have hkI : ¬ (k : Int) < n := by omega
      have hfin : fewS l ≤ 20000 := by
        have h3 := hms.out
        rw [List.take_of_length_le (by have := hl.out; omega)] at h3
        omega
      replace hfin := Lib.hid hfin
      go_wp2
      go_ret
      exact ⟨.inl ⟨rfl, hfin.out⟩, hb.out⟩
/-- What a line takes at most. -/
def lineB (e : Er) : Nat := 60 + 3 * (200 + 22 * e.dn + 2 * e.x.m.pay.length + 42 * e.nn + 2 * e.x.state.length)
section
variable {w : World} {x : TEv} {da na : Option Addr} {dn dc nn nc : Nat}
theorem field_szB (h : EvR w x da dn dc na nn nc) (f : Lt) (ho : fieldOk f x = true) : szW (fieldW f x) ≤ 200 + 22 * dn + 2 * x.m.pay.length + 42 * nn + 2 * x.state.length := by
  obtain ⟨f1, f2, f3⟩ := h.wf.cf
  obtain ⟨f4, f5, f6⟩ := h.wf.nu
  obtain ⟨m1, m2, m3⟩ := h.wf.mg
  have hnm : x.names.all (fun n => prOk n.proc) = true → szW (x.names.map nameW) ≤ 42 * nn := fun ha => by
    have h1 := szW_le (m := 41) (ws := x.names.map nameW) (fun u hu => by
      obtain ⟨n, hn, rfl⟩ := List.mem_map.1 hu
      exact nameW_len (List.all_eq_true.1 ha n hn) (h.wf.nm n hn))
    rw [List.length_map, h.nlen] at h1
    omega
  have hd := depsW_len m3
  rw [h.deps_len] at hd
  have hx1 := hex_len x.m.pay
  have hx2 := hex_len x.state
  cases f with
  | c =>
    have := confW_len (c := x.conf) ho f1
    show (confW x.conf).length + 1 + 0 ≤ _
    omega
  | n =>
    have := confW_len (c := x.new) ho f2
    show (confW x.new).length + 1 + 0 ≤ _
    omega
  | s =>
    have := num_len f4
    show (Lib.decDigits x.mem).length + 1 + 0 ≤ _
    omega
  | m =>
    have ho' : prOk x.m.frm = true ∧ prOk x.m.svc = true := by simpa [fieldOk] using ho
    have a1 := prW_len ho'.1
    have a2 := prW_len ho'.2
    have a3 := num_len (show x.m.seq < 18446744073709551616 by omega)
    have a4 := num_len m2
    show (prW x.m.frm).length + 1 + ((Lib.decDigits x.m.seq).length + 1 + ((Lib.decDigits x.m.stamp).length + 1 + ((prW x.m.svc).length + 1 + ((depsW x.m.deps).length + 1 + ((hexW x.m.pay).length + 1 + 0))))) ≤ _
    omega
  | v =>
    have a1 := confW_len (c := x.vconf) ho f3
    have a2 := num_len f5
    have a3 := num_len f6
    show (Lib.decDigits x.num).length + 1 + ((confW x.vconf).length + 1 + ((Lib.decDigits x.vmem).length + 1 + 0)) ≤ _
    omega
  | a => have := hnm ho; show szW (x.names.map nameW) ≤ _; omega
  | o =>
    have h9 : fieldOk .o x = (decide (x.names.length = 1) && x.names.all (fun n => prOk n.proc)) := rfl
    rw [h9, Bool.and_eq_true] at ho
    have := hnm ho.2
    show szW (x.names.map nameW) ≤ _
    omega
  | b =>
    show (hexW x.state).length + 1 + 0 ≤ _
    omega
end
theorem line_B {w : World} {e : Er} (h : EvR w e.x e.da e.dn e.dc e.na e.nn e.nc) (h0 : evE e.x = 0) : (lineW e.x).length ≤ lineB e := by
  obtain ⟨k1, k2, ho⟩ := evE_zero h0
  unfold evOk at ho
  rw [Bool.and_eq_true, List.all_eq_true] at ho
  have h1 := flat_sz (f := (fieldW · e.x)) (l := rowL e.x.kind.toNat) (fun f hf => field_szB h f (ho.2 f hf))
  have hk13 : e.x.kind.toNat < 13 := by omega
  have h3 : (rowL e.x.kind.toNat).length ≤ 3 := rowL_len ⟨_, hk13⟩
  have h4 := Nat.mul_le_mul_left (200 + 22 * e.dn + 2 * e.x.m.pay.length + 42 * e.nn + 2 * e.x.state.length) h3
  have h5 := prW_len ho.1
  have h6 : (kindW e.x.kind.toNat).length ≤ 7 := kindW_len ⟨_, hk13⟩
  have h7 := join_sz 32 (evW e.x)
  have h8 : szW (evW e.x) = (prW e.x.proc).length + 1 + ((kindW e.x.kind.toNat).length + 1 + szW ((rowL e.x.kind.toNat).flatMap (fieldW · e.x))) := rfl
  unfold lineW lineB
  omega
theorem lineB_few {w : World} {e : Er} (h : EvR w e.x e.da e.dn e.dc e.na e.nn e.nc) : lineB e + 1 ≤ 78889 + 53424 * few1 e := by
  have h1 := h.dn
  have h2 := h.nn
  have h3 := h.pay
  have h4 := h.st
  unfold lineB few1
  omega
theorem text_len {w : World} : ∀ (l : List Er), (∀ e ∈ l, EvR w e.x e.da e.dn e.dc e.na e.nn e.nc ∧ evE e.x = 0) → (prAllW (l.map (·.x))).length ≤ 78889 * l.length + 53424 * fewS l
  | [], _ => Nat.le_refl 0
  | e :: l, h => by
    have h1 := line_B (h e (by simp)).1 (h e (by simp)).2
    have h3 := lineB_few (h e (by simp)).1
    have h2 := text_len l (fun y hy => h y (by simp [hy]))
    have h4 : fewS (e :: l) = few1 e + fewS l := rfl
    unfold prAllW at h2 ⊢
    rw [List.map_cons, List.flatMap_cons, List.length_append, List.length_append, h4]
    simp only [List.length_cons, List.length_nil]
    omega
theorem fewS_append (l m : List Er) : fewS (l ++ m) = fewS l + fewS m := by unfold fewS; rw [List.map_append, List.sum_append]
theorem prAllE_zero {l : List TEv} : prAllE l = 0 ↔ ∀ x ∈ l, evE x = 0 := by
  induction l with
  | nil => exact ⟨fun _ x h => (by cases h), fun _ => rfl⟩
  | cons x l ih =>
    show (if evE x = 0 then prAllE l else evE x) = 0 ↔ _
    by_cases h : evE x = 0
    · rw [if_pos h, ih]
      refine ⟨fun h1 y hy => ?_, fun h1 y hy => h1 y (by simp [hy])⟩
      rcases List.mem_cons.1 hy with rfl | hy
      · exact h
      · exact h1 y hy
    · rw [if_neg h]
      exact ⟨fun h1 => absurd h1 h, fun h1 => absurd (h1 x (by simp)) h⟩
theorem text_app (l m : List TEv) : prAllW (l ++ m) = prAllW l ++ prAllW m := by unfold prAllW; rw [List.flatMap_append]
/-- A trace's text is parsed to it, clean. -/
theorem text_parse : ∀ (l : List TEv) (n : Nat), (∀ x ∈ l, x.Wf ∧ evE x = 0) → allT (pcs 10 (prAllW l)) n = (some (l.map cleanE), 0)
  | [], n, _ => rfl
  | x :: l, n, h => by
    obtain ⟨hw, h0⟩ := h x (by simp)
    have h10 : (10 : UInt8) ∉ lineW x := fun hc => by have := (okC_line h0 10 hc).1; revert this; decide
    have e : prAllW (x :: l) = lineW x ++ 10 :: prAllW l := by unfold prAllW; rw [List.flatMap_cons]; simp
    rw [e, pcs_app h10, allT_cons _ (pcs_ne _ _), line_parse hw h0, text_parse l (n + 1) (fun y hy => h y (by simp [hy]))]
    rfl
end Go.Proofs.YtpkknhhohbobaaaDoor
