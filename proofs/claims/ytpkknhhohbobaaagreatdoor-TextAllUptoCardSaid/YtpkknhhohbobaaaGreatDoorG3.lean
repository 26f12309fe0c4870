/- text: Few; text: value, the reader's word; text: the reader -/
import Derived.Test.YtpkknhhohbobaaaGreatDoorTxtNQ
namespace Go.Proofs.YtpkknhhohbobaaaGreatDoor
set_option linter.unusedSimpArgs false
set_option linter.unusedVariables false
open Go.RowKit Go.Sort
/-- An event as it lies: with its rows. -/
structure Er where
  x : TEv
  da : Option Addr
  dn : Nat
  dc : Nat
  na : Option Addr
  nn : Nat
  nc : Nat
def erC (e : Er) : List Value := (evC e.x e.da e.dn e.dc e.na e.nn e.nc).toList
theorem erC_len (e : Er) : (erC e).length = 19 := rfl
theorem erC_at {w : World} {g off n c : Nat} {l : List Er} (h : Rd w 19 (some ⟨g, off, none⟩) n c (l.flatMap erC)) (k : Nat) (hk : k < l.length) (j : Nat) (hj : j < 19) (v : Value) (hv : (erC l[k])[j]? = some v) : w.cell? ⟨g, off + k * 19 + j, none⟩ = some v := by
  have h0 := flatMap_get erC_len l k j hj
  rw [List.getElem?_eq_getElem hk, Option.bind_some, hv] at h0
  have := h.at h0
  rwa [← Nat.add_assoc] at this
set_option maxHeartbeats 3200000 in
set_option maxRecDepth 100000 in
theorem few_any (a : Option Addr) (n c : Nat) (l : List Er) (w : World) (hr : Rd w 19 a n c (l.flatMap erC)) :
    Calls Tryz.prog 9 #[.slice a n c] w fun e w' => (e = .returned (.bool true) ∨ e = .returned (.bool false)) ∧ Below w.heap.size w w' := by
  have hl : Hid (l.length = n) := Lib.hid (by have := hr.length_eq; rw [flatMap_len erC_len] at this; omega)
  have hmx := hr.le_max
  have hr0 := Lib.hid hr
  clear hr
  go_enter Tryz.func9, Tryz.ntmps9
  go_wp2
  go_loopw [3, 4] (fun s i wr => ∃ (k m : Nat), k ≤ n ∧ i = .int .i64 k ∧ s = .int .i64 m ∧ m ≤ 20000 ∧ Hid (Below w.heap.size w wr)) (fun _ i _ => n - (intOf i).toNat)
  case atStart => exact ⟨0, 0, Nat.zero_le _, rfl, rfl, by decide, Lib.hid (Below.refl _ _)⟩
  case round =>
    obtain ⟨k, m, hk, rfl, rfl, hm, hb⟩ := hrel
    obtain ⟨w1, rfl⟩ : ∃ z, z = wr := ⟨_, rfl⟩
    by_cases hkn : k < n
    · have hkI : (k : Int) < n := by omega
      have hkl : k < l.length := by rw [hl.out]; exact hkn
      obtain ⟨g, off, rfl, _⟩ := hr0.out.addr (by omega)
      have hr1 := hr0.out.below hb.out (Nat.le_refl _)
      have c1 := erC_at hr1 k hkl 11 (by decide) _ rfl
      have c2 := erC_at hr1 k hkl 12 (by decide) _ rfl
      have c3 := erC_at hr1 k hkl 17 (by decide) _ rfl
      have c4 := erC_at hr1 k hkl 18 (by decide) _ rfl
      generalize l[k] = y at *
      obtain ⟨x, da, dn, dc, na, nn, nc⟩ := y
      simp only at c1 c2 c3 c4
      generalize mkB x.m.pay = P at *
      generalize mkB x.state = S at *
      clear hr1
      have hmI : (m : Int) ≤ 20000 := by omega
      replace hm := Lib.hid hm
      go_wp2_with fail
      go_quiet (fail)
      have hbq := Lib.hid (belN hb.out nq)
      generalize w1.drewN nq = w2 at *
      obtain ⟨z, hz⟩ : ∃ z : Nat, (m : Int) + min (P.size : Int) 20000 / 8 + min (dn : Int) 20000 / 8 + min (nn : Int) 20000 / 8 + min (S.size : Int) 20000 / 16 = z := ⟨((m : Int) + min (P.size : Int) 20000 / 8 + min (dn : Int) 20000 / 8 + min (nn : Int) 20000 / 8 + min (S.size : Int) 20000 / 16).toNat, by omega⟩
      rw [hz]
      clear hz c1 c2 c3 c4 hmI hm
      by_cases h5 : 500 ≤ k
      · have h5I : (500 : Int) ≤ k := by omega
        clear h5
        go_wp2
        all_goals
          go_ret
          exact ⟨.inr rfl, hbq.out⟩
      · have h5I : ¬ (500 : Int) ≤ k := by omega
        clear h5
        by_cases h6 : z ≤ 20000
        · have h6I : ¬ (20000 : Int) < z := by omega
          replace h6 := Lib.hid h6
          go_wp2
          go_roundw
          case rel => exact ⟨k + 1, z, by omega, by go_num, by go_num, h6.out, hbq⟩
          case measure => simp [intOf]; omega
        · have h6I : (20000 : Int) < z := by omega
          clear h6
          go_wp2
          go_ret
          exact ⟨.inr rfl, hbq.out⟩
    · have hkI : ¬ (k : Int) < n := by omega
      go_wp2
      go_ret
      exact ⟨.inl rfl, hb.out⟩
end Go.Proofs.YtpkknhhohbobaaaGreatDoor
namespace Go.Proofs.YtpkknhhohbobaaaGreatDoor
set_option linter.unusedSimpArgs false
set_option linter.unusedVariables false
open Go.RowKit Go.Sort
theorem below_bytes (w : World) (t : TypeId) (s : ByteArray) : Below w.heap.size w (Lib.bytesWorld w t s) := ⟨rfl, rfl, rfl, by rw [Lib.bytesWorld_size]; omega, fun k hk => Lib.bytesWorld_at_old w t s k hk⟩
/-- What a number's reading answers. -/
def PV (o : Option Nat) (e : Ending) : Prop := match o with
  | some v => e = .returned (.int .u64 (v : Int))
  | none => e = pan 4
theorem mkB_toList (s : W8) : (mkB s).toList = s := by rw [ByteArray.toList_eq]; exact (congrArg _ rfl)
set_option maxHeartbeats 3200000 in
set_option maxRecDepth 100000 in
theorem value_any (s : W8) (most : Nat) (hm : most ≤ 18446744073709551615) (hs : s.length ≤ 281474976710656) (w : World) (hT : TL w) :
    Calls Tryz.prog 73 #[.string (mkB s), .int .u64 (most : Int)] w fun e w' => PV (valN s most) e ∧ Below w.heap.size w w' := by
  have hsz := mkB_size s
  have hdl : (mkB s).data.toList = s := rfl
  cases hP : Lib.parseUintB 64 s with
  | ok u =>
    have hv := valN_ok hm hP
    have hP1 := Lib.hid (Tryz.strconv_ParseUint_10_at64_ok (mkB s) (by omega) u (by rw [hdl]; exact hP) w)
    by_cases h1 : u ≤ most
    · have hN := Lib.hid (fun (W : World) (hb : Below w.heap.size w W) => num_any u (by omega) W (hT.on hb))
      have h1I : ¬ (most : Int) < u := by omega
      clear hT hdl hP
      go_enter Tryz.func73, Tryz.ntmps73
      go_wp2_with fail
      refine hP1.out.mono ?_
      rintro e w1 ⟨rfl, hw1⟩
      have hb : Below w.heap.size w w1 := by
        rcases hw1 with h | h
        · rw [h]; exact Below.refl _ _
        · rw [h]; exact below_bytes _ _ _
      have HN := Lib.hid (hN.out _ hb)
      have hbb := Lib.hid hb
      clear hP1 hb hw1 hN
      go_wp2_with fail
      refine HN.out.mono ?_
      rintro e w2 ⟨rfl, hb2⟩
      have hb3 := Lib.hid (belS hbb.out hb2)
      clear HN hbb hb2
      by_cases h2 : Lib.decDigits u = s
      · rw [if_pos ⟨h2, h1⟩] at hv
        replace hv := Lib.hid hv
        rw [h2]
        clear h1
        go_wp2_with fail
        refine (bad_f (by first | rfl | (simp; done) | (simp; omega)) 4 _).mono ?_
        rintro e w3 ⟨rfl, rfl⟩
        go_wp2
        go_ret
        exact ⟨by rw [hv.out]; rfl, hb3.out⟩
      · rw [if_neg (fun h => h2 h.1)] at hv
        replace hv := Lib.hid hv
        have hne : ¬ (mkB (Lib.decDigits u)).toList = (mkB s).toList := fun e => h2 (by rwa [mkB_toList, mkB_toList] at e)
        clear h1
        go_wp2_with fail
        refine (bad_t (by simp; exact .inr hne) 4 _).mono ?_
        rintro e w3 ⟨rfl, rfl⟩
        exact ⟨rfl, by rw [hv.out]; rfl, hb3.out⟩
    · have h1I : (most : Int) < u := by omega
      rw [if_neg (fun h => h1 h.2)] at hv
      replace hv := Lib.hid hv
      rw [hv.out]
      clear hT hdl hP h1
      go_enter Tryz.func73, Tryz.ntmps73
      go_wp2_with fail
      refine hP1.out.mono ?_
      rintro e w1 ⟨rfl, hw1⟩
      have hb : Below w.heap.size w w1 := by
        rcases hw1 with h | h
        · rw [h]; exact Below.refl _ _
        · rw [h]; exact below_bytes _ _ _
      have hbb := Lib.hid hb
      clear hP1 hb hw1
      go_wp2_with fail
      refine (bad_t (by first | rfl | (simp; done)) 4 _).mono ?_
      rintro e w2 ⟨rfl, rfl⟩
      exact ⟨rfl, rfl, hbb.out⟩
  | «syntax» =>
    have hv := Lib.hid (valN_bad (most := most) hm (fun v e => by rw [hP] at e; cases e))
    obtain ⟨tp, p, hsy⟩ := hT.syn
    have hP1 := Lib.hid (Tryz.strconv_ParseUint_10_at64_syntax_var (mkB s) (by omega) (by rw [hdl]; exact hP) tp p w hsy)
    rw [hv.out]
    clear hsy hP hT hdl
    go_enter Tryz.func73, Tryz.ntmps73
    go_wp2_with fail
    refine hP1.out.mono ?_
    rintro e w1 ⟨N, rfl, _, _, hb⟩
    have hbb := Lib.hid hb
    clear hP1 hb
    go_wp2_with fail
    refine (bad_t (by first | rfl | (simp; done)) 4 _).mono ?_
    rintro e w2 ⟨rfl, rfl⟩
    exact ⟨rfl, rfl, hbb.out⟩
  | range =>
    have hv := Lib.hid (valN_bad (most := most) hm (fun v e => by rw [hP] at e; cases e))
    obtain ⟨tp, p, hsy⟩ := hT.rng
    have hP1 := Lib.hid (Tryz.strconv_ParseUint_10_at64_range_var (mkB s) (by omega) (by rw [hdl]; exact hP) tp p w hsy)
    rw [hv.out]
    clear hsy hP hT hdl
    go_enter Tryz.func73, Tryz.ntmps73
    go_wp2_with fail
    refine hP1.out.mono ?_
    rintro e w1 ⟨N, rfl, _, _, hb⟩
    have hbb := Lib.hid hb
    clear hP1 hb
    go_wp2_with fail
    refine (bad_t (by first | rfl | (simp; done)) 4 _).mono ?_
    rintro e w2 ⟨rfl, rfl⟩
    exact ⟨rfl, rfl, hbb.out⟩
end Go.Proofs.YtpkknhhohbobaaaGreatDoor
namespace Go.Proofs.YtpkknhhohbobaaaGreatDoor
set_option linter.unusedSimpArgs false
set_option linter.unusedVariables false
open Go.RowKit Go.Sort
/-- A reader: the words that it has still to read. -/
def RdT (w : World) (b : Nat) (ws : List W8) : Prop := ∃ a n c, BlkAt w b 86 #[.slice a n c] ∧ Rd w 1 a n c (ws.map sv) ∧ (n ≠ 0 → ∀ g off, a = some ⟨g, off, none⟩ → g < b) ∧ 8 ≤ b ∧ ∀ u ∈ ws, u.length < 4294967281 ∧ u ≠ []
/-- What the reading of a word answers. -/
def PW (ws : List W8) (b : Nat) (e : Ending) (w' : World) : Prop := match ws with
  | [] => e = pan 4
  | u :: r => e = .returned (.string (mkB u)) ∧ RdT w' b r
section
variable {b : Nat} {w w' : World} {ws : List W8}
theorem RdT.lt (h : RdT w b ws) : b < w.heap.size := by obtain ⟨_, _, _, h1, _⟩ := h; exact h1.lt
theorem RdT.below (h : RdT w b ws) (k : Below w.heap.size w w') : RdT w' b ws := by
  obtain ⟨a, n, c, h1, h2, h3⟩ := h
  exact ⟨a, n, c, h1.below k h1.lt, h2.below k (Nat.le_refl _), h3⟩
theorem Rd.rest {n c : Nat} {x : Value} {xs : List Value} {g off : Nat} (h : Rd w 1 (some ⟨g, off, none⟩) (n + 1) c (x :: xs)) : Rd w 1 (some ⟨g, off + 1, none⟩) n (c - 1) xs := by
  obtain ⟨⟨h1, h2, h3, h4⟩, h5⟩ := h
  refine ⟨⟨by simpa using h1, by omega, by omega, (fun e => by cases e)⟩, ?_⟩
  rcases h5 with h5 | ⟨b, o, he, hb, hc⟩
  · exact absurd h5 (by omega)
  · simp only [Option.some.injEq, Addr.mk.injEq] at he
    obtain ⟨rfl, rfl, _⟩ := he
    exact .inr ⟨g, off + 1, rfl, hb, fun j u hu => by
      have := hc (j + 1) u (by simpa using hu)
      rwa [show off + 1 + j = off + (j + 1) from by omega]⟩
set_option maxHeartbeats 3200000 in
set_option maxRecDepth 100000 in
theorem word_any (ws : List W8) (h : RdT w b ws) :
    Calls Tryz.prog 48 #[.pointer (some ⟨b, 0, none⟩)] w fun e w' => PW ws b e w' ∧ Kp b w w' := by
  obtain ⟨a, n, c, h1, h2, h3, h4, h5⟩ := h
  have hl := h2.length_eq
  rw [List.length_map, Nat.mul_one] at hl
  have c0 : w.cell? ⟨b, 0, none⟩ = some (.slice a n c) := h1.cell rfl
  have f0 := h1.fz 0
  have hcm := h2.le_cap
  cases ws with
  | nil =>
    obtain rfl : n = 0 := hl.symm
    clear h2 h3
    go_enter Tryz.func48, Tryz.ntmps48
    go_wp2_with fail
    refine (bad_t (by first | rfl | (simp; done) | (simp; omega)) 4 _).mono ?_
    rintro e w2 ⟨rfl, rfl⟩
    exact ⟨rfl, rfl, Kp.refl _ _⟩
  | cons u r =>
    obtain rfl : n = r.length + 1 := hl.symm
    obtain ⟨g, off, rfl, hg⟩ := h2.addr (by omega)
    have c1 : w.cell? ⟨g, off, none⟩ = some (.string (mkB u)) := h2.at (j := 0) rfl
    have hgb := h3 (by omega) g off rfl
    have hr := Lib.hid (Rd.rest h2)
    have hlen : ¬ ((r.length : Int) + 1 = 0) := by omega
    have hrl := Lib.hid (show (r.map sv).length = r.length from List.length_map ..)
    generalize r.length = m at *
    replace h4 := Lib.hid h4
    replace h5 := Lib.hid h5
    clear h2 h3
    go_enter Tryz.func48, Tryz.ntmps48
    go_wp2_with fail
    refine (bad_f (by first | rfl | (simp; done) | (simp; omega)) 4 _).mono ?_
    rintro e w2 ⟨rfl, rfl⟩
    go_wp2_with fail
    · obtain rfl : m = 0 := by omega
      go_ret
      exact ⟨⟨rfl, _, 0, 0, h1.set 0 _, ⟨⟨by rw [hrl.out], Nat.le_refl 0, Nat.zero_le _, (fun e => by cases e)⟩, .inl rfl⟩, fun e => absurd rfl e, h4.out, fun v hv => h5.out v (by simp [hv])⟩, (Kp.refl b w).setCell ⟨b, 0, none⟩ rfl _⟩
    · have k := (Kp.refl b w).setCell ⟨b, 0, none⟩ rfl (.slice (some ⟨g, off + 1, none⟩) m (c - 1))
      go_ret
      exact ⟨⟨rfl, _, m, c - 1, h1.set 0 _, k.rd hr.out (fun g' o e => by cases e; omega), fun _ g' o e => by cases e; exact hgb, h4.out, fun v hv => h5.out v (by simp [hv])⟩, k⟩
theorem RdT.b8 (h : RdT w b ws) : 8 ≤ b := by obtain ⟨_, _, _, _, _, _, h4, _⟩ := h; exact h4
theorem RdT.small (h : RdT w b ws) : ∀ u ∈ ws, u.length < 4294967281 := by obtain ⟨_, _, _, _, _, _, _, h5⟩ := h; exact fun u hu => (h5 u hu).1
theorem RdT.full (h : RdT w b ws) : ∀ u ∈ ws, u ≠ [] := by obtain ⟨_, _, _, _, _, _, _, h5⟩ := h; exact fun u hu => (h5 u hu).2
theorem TL.kp (h : TL w) (k : Kp b w w') (hb : 8 ≤ b) : TL w' := h.keep k.size (fun g hg => k.block g (by have := h.big; omega) (by omega))
theorem takeN_cons (u : W8) (r : List W8) (most : Nat) : takeN most (u :: r) = (valN u most).map (fun v => (v, r)) := rfl
theorem Kp.ne {m : Nat} (k : Kp m w w') : ∀ c, c < w.heap.size → c ≠ m → w'.heap[c]? = w.heap[c]? := fun c h1 h2 => k.block c h1 h2
/-- A store into a block of one's own leaves the reader as it was. -/
theorem RdT.off {m : Nat} (h : RdT w b ws) (k : Kp m w w') (hm : b < m) : RdT w' b ws := by
  obtain ⟨a, n, c, h1, h2, h3, h4, h5⟩ := h
  refine ⟨a, n, c, k.blk h1 (by omega), ?_, h3, h4, h5⟩
  by_cases h0 : n = 0
  · exact ⟨h2.1, .inl h0⟩
  · exact k.rd h2 (fun g off e => by have := h3 h0 g off e; omega)
/-- .. and what is kept but for the reader is kept. -/
theorem Kp.near {m : Nat} {v : World} (h : Kp b v w) (k : Kp m w w') (hs : w'.heap.size = w.heap.size) (hm : v.heap.size ≤ m) : Kp b v w' :=
  ⟨k.os.trans h.os, k.tape.trans h.tape, k.output.trans h.output, by rw [hs]; exact h.size, fun i hi hne => (k.block i (by have := h.size; omega) (by omega)).trans (h.block i hi hne)⟩
/-- What a reading answers. -/
def PR {α : Type} (o : Option (α × List W8)) (val : α → Value) (b : Nat) (e : Ending) (w' : World) : Prop := match o with
  | none => e = pan 4
  | some (v, r) => e = .returned (val v) ∧ RdT w' b r
theorem PR.no {α : Type} {o : Option (α × List W8)} {val : α → Value} {e : Ending} (h : o = none) (he : e = pan 4) : PR o val b e w := by subst h; exact he
theorem PR.yes {α : Type} {o : Option (α × List W8)} {val : α → Value} {v : α} {r : List W8} {e : Ending} (h : o = some (v, r)) (he : e = .returned (val v)) (hr : RdT w b r) : PR o val b e w := by subst h; exact ⟨he, hr⟩
set_option maxHeartbeats 1600000 in
set_option maxRecDepth 100000 in
theorem rdnum_any (ws : List W8) (h : RdT w b ws) (hT : TL w) :
    Calls Tryz.prog 52 #[.pointer (some ⟨b, 0, none⟩)] w fun e w' => PR (takeN 18446744073709551615 ws) (fun v => .int .u64 (v : Int)) b e w' ∧ Kp b w w' := by
  have HW := Lib.hid (word_any ws h)
  have h8 := h.b8
  have hs := h.small
  replace hT := Lib.hid hT
  clear h
  go_enter Tryz.func52, Tryz.ntmps52
  go_wp2_with fail
  refine HW.out.mono ?_
  rintro e w1 ⟨hp, hk⟩
  clear HW
  cases ws with
  | nil =>
    obtain rfl : e = pan 4 := hp
    exact ⟨rfl, PR.no rfl rfl, hk⟩
  | cons u r =>
    obtain ⟨rfl, hR⟩ := hp
    have HV := Lib.hid (value_any u 18446744073709551615 (by decide) (by have := hs u (by simp); omega) w1 (hT.out.kp hk h8))
    replace hR := Lib.hid hR
    replace hk := Lib.hid hk
    clear hs
    go_wp2_with fail
    refine HV.out.mono ?_
    rintro e w2 ⟨hv, hb2⟩
    clear HV
    cases hval : valN u 18446744073709551615 with
    | none =>
      rw [hval] at hv
      obtain rfl : e = pan 4 := hv
      exact ⟨rfl, PR.no (by rw [takeN_cons, hval]; rfl) rfl, hk.out.trans (Kp.ofBelow hb2)⟩
    | some v =>
      rw [hval] at hv
      obtain rfl : e = .returned (.int .u64 (v : Int)) := hv
      have hq := Lib.hid (show takeN 18446744073709551615 (u :: r) = some (v, r) from by rw [takeN_cons, hval]; rfl)
      have hR2 := Lib.hid (hR.out.below hb2)
      have hk2 := Lib.hid (hk.out.trans (Kp.ofBelow hb2))
      clear hval hb2 hk hR
      go_wp2
      go_ret
      exact ⟨PR.yes hq.out rfl hR2.out, hk2.out⟩
set_option maxHeartbeats 1600000 in
set_option maxRecDepth 100000 in
theorem rdproc_any (ws : List W8) (h : RdT w b ws) (hT : TL w) :
    Calls Tryz.prog 47 #[.pointer (some ⟨b, 0, none⟩)] w fun e w' => PR (takeN 63 ws) (fun v => .int .i64 (v : Int)) b e w' ∧ Kp b w w' := by
  have HW := Lib.hid (word_any ws h)
  have h8 := h.b8
  have hs := h.small
  replace hT := Lib.hid hT
  clear h
  go_enter Tryz.func47, Tryz.ntmps47
  go_wp2_with fail
  refine HW.out.mono ?_
  rintro e w1 ⟨hp, hk⟩
  clear HW
  cases ws with
  | nil =>
    obtain rfl : e = pan 4 := hp
    exact ⟨rfl, PR.no rfl rfl, hk⟩
  | cons u r =>
    obtain ⟨rfl, hR⟩ := hp
    have HV := Lib.hid (value_any u 63 (by decide) (by have := hs u (by simp); omega) w1 (hT.out.kp hk h8))
    replace hR := Lib.hid hR
    replace hk := Lib.hid hk
    clear hs
    go_wp2_with fail
    refine HV.out.mono ?_
    rintro e w2 ⟨hv, hb2⟩
    clear HV
    cases hval : valN u 63 with
    | none =>
      rw [hval] at hv
      obtain rfl : e = pan 4 := hv
      exact ⟨rfl, PR.no (by rw [takeN_cons, hval]; rfl) rfl, hk.out.trans (Kp.ofBelow hb2)⟩
    | some v =>
      rw [hval] at hv
      obtain rfl : e = .returned (.int .u64 (v : Int)) := hv
      have hv63 := (valN_some.1 hval).2
      have hwr : IntKind.i64.wrap (v : Int) = v := by rw [IntKind.wrap_i64]; omega
      have hq := Lib.hid (show takeN 63 (u :: r) = some (v, r) from by rw [takeN_cons, hval]; rfl)
      have hR2 := Lib.hid (hR.out.below hb2)
      have hk2 := Lib.hid (hk.out.trans (Kp.ofBelow hb2))
      clear hval hb2 hk hR
      go_wp2
      go_ret
      exact ⟨PR.yes hq.out rfl hR2.out, hk2.out⟩
end
end Go.Proofs.YtpkknhhohbobaaaGreatDoor
