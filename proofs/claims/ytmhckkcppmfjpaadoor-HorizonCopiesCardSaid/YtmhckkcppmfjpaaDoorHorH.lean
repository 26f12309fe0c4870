/- the horizon: walks of Came, Promise -/
import Derived.Test.YtmhckkcppmfjpaaDoorHorG
namespace Go.Proofs.YtmhckkcppmfjpaaDoor
open Go.RowKit Go.Sort

/-- What a call of a horizon with the blocks O leaves: another horizon, all but O kept; new blocks alone come in. -/
def HorTo (B : Nat) (w : World) (O : Nat → Prop) (b : Nat) (t : HS) (w' : World) : Prop := ∃ O' vs, HorAt B w' O' b t vs ∧ KpO O w w' ∧ ∀ g, O' g → O g ∨ w.heap.size ≤ g
def Mk.hear (m : Mk) (seq st : Nat) : Mk := { m with came := seq, heard := max m.heard st }
def Mk.more (m : Mk) (x : Pm) : Mk := { m with ws := m.ws ++ [x] }
def HS.came (s : HS) (p : Int) (seq st : Nat) : HS := if hasB s.oth p = true then (s.see st).set p.toNat ((s.l p.toNat).hear seq st).count else s
def HS.prom (s : HS) (p : Int) (st sent : Nat) : HS := if hasB s.oth p = true then (s.see st).set p.toNat ((s.l p.toNat).more ⟨st, sent⟩).count else s
section
variable {B : Nat} {w : World} {O : Nat → Prop} {b : Nat} {s : HS} {vs : Nat → Value}
theorem HorAt.heared {p seq st : Nat} (h : HorAt B w O b s vs) (hp : p < 64) (z : Nat) (hz : z = max (s.l p).heard st) :
    HorAt B ((w.setCell ⟨b, 2 + p * 4 + 2, none⟩ (.int .u32 seq)).setCell ⟨b, 2 + p * 4, none⟩ (.int .u64 z)) O b (s.set p ((s.l p).hear seq st)) vs ∧ Kp b w ((w.setCell ⟨b, 2 + p * 4 + 2, none⟩ (.int .u32 seq)).setCell ⟨b, 2 + p * 4, none⟩ (.int .u64 z)) := by
  subst hz
  have hk : Kp b w ((w.setCell ⟨b, 2 + p * 4 + 2, none⟩ (.int .u32 seq)).setCell ⟨b, 2 + p * 4, none⟩ (.int .u64 (max (s.l p).heard st : Nat))) := ((Kp.refl b w).setCell _ rfl _).setCell _ rfl _
  refine ⟨h.cells hk ?_ (fun i => ?_), hk⟩
  · have h1 := h.blk.set (2 + p * 4 + 2) (.int .u32 seq)
    rw [horC_cell s vs p 2 hp (by decide) _ { s.l p with came := seq } rfl] at h1
    have h2 := h1.set (2 + p * 4) (.int .u64 (max (s.l p).heard st : Nat))
    have e := horC_cell (s.set p { s.l p with came := seq }) vs p 0 hp (by decide) (.int .u64 (max (s.l p).heard st : Nat)) ((s.l p).hear seq st) (by rw [HS.set_at]; rfl)
    rw [Nat.add_zero] at e
    rw [e, HS.set_set] at h2
    exact h2
  · by_cases e : i = p
    · subst e; rw [HS.set_at]; rfl
    · rw [HS.set_ne _ _ _ e]
theorem HS.hear_ok (hs : s.Ok) (p : Nat) {seq st : Nat} (h1 : seq < 4294967296) (h2 : st < 18446744073709551616) : (s.set p ((s.l p).hear seq st)).Ok :=
  HS.set_ok hs p (Nat.max_lt.2 ⟨hs.heard p, h2⟩) (hs.reached p) h1 (hs.st p) (hs.sent p)
set_option maxHeartbeats 800000 in
set_option maxRecDepth 100000 in
theorem came_no (p : Int) (seq st : Nat) (hs : s.Ok) (h : HorAt B w O b s vs) (hh : hasB s.oth p = false) :
    Calls Tryd.prog 16 #[.pointer (some ⟨b, 0, none⟩), .int .i64 p, .int .u32 seq, .int .u64 st] w fun e w' => e = .returned (.tuple #[]) ∧ w = w' := by
  have c1 := h.c1
  have HC := fun w => has_any s.oth p hs.oth w
  rw [hh] at HC
  have HC := Lib.hid HC
  go_enter Tryd.func16, Tryd.ntmps16
  go_wp2_with fail
  refine (HC.out _).mono ?_
  rintro e w' ⟨rfl, rfl⟩
  go_wp2
  exact bodyPost_ret (v := .tuple #[]) (by simp [results, Tryd.results16, go_sem]) rfl ⟨rfl, rfl⟩
set_option maxHeartbeats 800000 in
set_option maxRecDepth 100000 in
theorem prom_no (p : Int) (st sent : Nat) (hs : s.Ok) (h : HorAt B w O b s vs) (hh : hasB s.oth p = false) :
    Calls Tryd.prog 15 #[.pointer (some ⟨b, 0, none⟩), .int .i64 p, .int .u64 st, .int .u32 sent] w fun e w' => e = .returned (.tuple #[]) ∧ w = w' := by
  have c1 := h.c1
  have HC := fun w => has_any s.oth p hs.oth w
  rw [hh] at HC
  have HC := Lib.hid HC
  go_enter Tryd.func15, Tryd.ntmps15
  go_wp2_with fail
  refine (HC.out _).mono ?_
  rintro e w' ⟨rfl, rfl⟩
  go_wp2
  exact bodyPost_ret (v := .tuple #[]) (by simp [results, Tryd.results15, go_sem]) rfl ⟨rfl, rfl⟩
set_option maxHeartbeats 1600000 in
set_option maxRecDepth 100000 in
theorem came_yes (p : Nat) (seq st : Nat) (hseq : seq < 4294967296) (hst : st < 18446744073709551616) (hs : s.Ok) (hlen : (s.l p).ws.length ≤ 1000000) (h : HorAt B w O b s vs) (hp : p < 64) (hh : hasB s.oth p = true) :
    Calls Tryd.prog 16 #[.pointer (some ⟨b, 0, none⟩), .int .i64 p, .int .u32 seq, .int .u64 st] w fun e w' => e = .returned (.tuple #[]) ∧ HorTo B w O b (s.came p seq st) w' := by
  have c1 := h.c1
  have hpI : (p : Int) < 64 := by omega
  have HC := fun w => has_any s.oth p hs.oth w
  rw [hh] at HC
  have HC := Lib.hid HC
  have HSee := Lib.hid (see_any st hs hst h)
  have HE := Lib.hid (show s.came p seq st = (s.see st).set p (((s.see st).l p).hear seq st).count from by rw [HS.came, if_pos hh]; rfl)
  have hs1 := HS.see_ok hs hst
  have hl1 : ((s.see st).l p).ws.length ≤ 1000000 := hlen
  have hob := h.ob
  generalize s.came p seq st = t at *
  generalize s.see st = s1 at *
  clear hh h
  go_enter Tryd.func16, Tryd.ntmps16
  go_wp2_with fail
  refine (HC.out _).mono ?_
  rintro e w' ⟨rfl, rfl⟩
  go_wp2_with fail
  refine HSee.out.mono ?_
  rintro e w2 ⟨rfl, h2, hk2⟩
  obtain ⟨d0, d1, d2, d3⟩ := h2.mrk p hp
  have f0 := h2.fz (2 + p * 4)
  have f2 := h2.fz (2 + p * 4 + 2)
  have HX := Lib.hid (fun z hz => h2.heared (seq := seq) (st := st) hp z hz)
  have hs2 := HS.hear_ok hs1 p hseq hst
  have HK2 := Lib.hid (KpO.ofKp (O := O) hk2 hob)
  clear HSee c1 h2 hk2
  by_cases hlt : (s1.l p).heard < st
  · have hltI : ((s1.l p).heard : Int) < st := by omega
    have HY := Lib.hid (HX.out st (Nat.max_eq_right (by omega)).symm)
    clear HX
    go_wp2_with fail
    refine (count_any p hp hs2 (by rw [HS.set_at]; exact hl1) HY.out.1).mono ?_
    rintro e w4 ⟨rfl, v, h4, hv, hk4⟩
    go_wp2
    go_end0
    rw [HS.set_at, HS.set_set, ← HE.out] at h4
    exact ⟨rfl, O, _, h4, (HK2.out.trans (KpO.ofKp (O := O) HY.out.2 hob) (fun g hg => .inl hg)).trans hk4 (fun g hg => .inl hg), fun g hg => .inl hg⟩
  · have hltI : ¬ ((s1.l p).heard : Int) < st := by omega
    have HY := Lib.hid (HX.out (s1.l p).heard (Nat.max_eq_left (by omega)).symm)
    clear HX
    go_wp2_with fail
    refine (count_any p hp hs2 (by rw [HS.set_at]; exact hl1) HY.out.1).mono ?_
    rintro e w4 ⟨rfl, v, h4, hv, hk4⟩
    go_wp2
    go_end0
    rw [HS.set_at, HS.set_set, ← HE.out] at h4
    exact ⟨rfl, O, _, h4, (HK2.out.trans (KpO.ofKp (O := O) HY.out.2 hob) (fun g hg => .inl hg)).trans hk4 (fun g hg => .inl hg), fun g hg => .inl hg⟩
theorem came_any (p : Int) (seq st : Nat) (hseq : seq < 4294967296) (hst : st < 18446744073709551616) (hs : s.Ok) (hlen : ∀ i, (s.l i).ws.length ≤ 1000000) (h : HorAt B w O b s vs) :
    Calls Tryd.prog 16 #[.pointer (some ⟨b, 0, none⟩), .int .i64 p, .int .u32 seq, .int .u64 st] w fun e w' => e = .returned (.tuple #[]) ∧ HorTo B w O b (s.came p seq st) w' := by
  cases hh : hasB s.oth p with
  | false =>
    refine (came_no p seq st hs h hh).mono ?_
    rintro e w' ⟨rfl, rfl⟩
    rw [HS.came, if_neg (by rw [hh]; decide)]
    exact ⟨rfl, O, vs, h, KpO.refl _ _, fun g hg => .inl hg⟩
  | true =>
    obtain ⟨n, rfl, hn⟩ := hasB_nat hh
    exact came_yes n seq st hseq hst hs (hlen n) h hn hh
theorem Tryd.pmE : Elt Tryd.prog 44 56 (.agg #[.int .u64 0, .int .u32 0]) 2 16 := ⟨by kernel_rfl, by kernel_rfl, rfl, by decide⟩
theorem Rd.blk1 {w : World} {e : TypeId} {cs : List Value} {sz b : Nat} (hb : b = w.heap.size) (hs : cs.length = sz) : Rd (w.alloc (.cells cs.toArray e)) sz (some ⟨b, 0, none⟩) 1 1 cs := by
  subst hb
  refine ⟨⟨by omega, Nat.le_refl _, by decide, fun h => by cases h⟩, .inr ⟨_, 0, rfl, by simp, fun j u' hu => ?_⟩⟩
  rw [World.cell?_alloc_at _ _ _ _ rfl]
  simpa using hu
theorem KpO.ofGrown {O : Nat → Prop} {x y : World} {row : Option Nat} (g : x.grownBy y row) (hO : ∀ k, row = some k → O k) : KpO O x y :=
  ⟨g.os, g.tape, g.output, g.size, fun k hk hn => g.block k hk (fun e => hn (hO k e.symm))⟩
theorem HorAt.mored {w4 : World} {p : Nat} {v : Value} {x : Pm} (h : HorAt B w O b s vs) (hp : p < 64) (hg : w.grownBy w4 (vs p).ownBlock) (ho : w4.ownsRow B 56 2 v ((s.l p).ws.length + 1) ((s.l p).ws.flatMap pmF ++ pmF x)) (hv : v.ownBlock = (vs p).ownBlock ∨ ∀ k, v.ownBlock = some k → w.heap.size ≤ k) :
    HorAt B (w4.setCell ⟨b, 2 + p * 4 + 3, none⟩ v) (fun g => O g ∨ v.ownBlock = some g) b (s.set p ((s.l p).more x)) (setV vs p v) ∧ KpO O w (w4.setCell ⟨b, 2 + p * 4 + 3, none⟩ v) := by
  have hk : KpO (fun k => k = b ∨ (vs p).ownBlock = some k) w w4 := KpO.ofGrown hg (fun k e => .inr e)
  have hks : KpO (fun k => k = b ∨ (vs p).ownBlock = some k) w (w4.setCell ⟨b, 2 + p * 4 + 3, none⟩ v) := hk.setCell _ (.inl rfl) _
  have hb4 : BlkAt w4 b 49 (horC s vs) := (hg.block b h.lt (fun e => h.nb p hp e.symm)).trans h.blk
  have hblk := hb4.set (2 + p * 4 + 3) v
  rw [horC_set s vs p 3 hp (by decide) v ((s.l p).more x) v rfl] at hblk
  have hvb : ∀ g, v.ownBlock = some g → g ≠ b := fun g hg e => by
    rcases hv with hv | hv
    · exact h.nb p hp (by rw [← hv, hg, e])
    · have := hv g hg; have := h.lt; omega
  have e1 : ((s.set p ((s.l p).more x)).l p).ws = (s.l p).ws ++ [x] := by rw [HS.set_at]; rfl
  have hrow : (w4.setCell ⟨b, 2 + p * 4 + 3, none⟩ v).ownsRow B 56 2 v ((s.set p ((s.l p).more x)).l p).ws.length (((s.set p ((s.l p).more x)).l p).ws.flatMap pmF) := by
    rw [e1, List.length_append, List.flatMap_append]
    have e2 : [x].flatMap pmF = pmF x := by simp
    rw [e2]
    exact own_keep ho fun g hg _ => Below.heap_setCell _ _ _ _ (fun e => hvb g hg e)
  exact ⟨HorAt.newRow h hp hks hblk (fun i hi => by rw [HS.set_ne _ _ _ hi]) hrow hv, ⟨hks.os, hks.tape, hks.output, hks.size, fun k hk hn => hks.block k hk (fun hc => hn (h.rowIn hp k hc))⟩⟩
theorem HS.more_ok (hs : s.Ok) (p : Nat) {x : Pm} (h1 : x.st < 18446744073709551616) (h2 : x.sent < 4294967296) : (s.set p ((s.l p).more x)).Ok :=
  HS.set_ok hs p (hs.heard p) (hs.reached p) (hs.came p) (fun y hy => by
    rcases List.mem_append.1 hy with hy | hy
    · exact hs.st p y hy
    · rw [List.mem_singleton.1 hy]; exact h1) (fun y hy => by
    rcases List.mem_append.1 hy with hy | hy
    · exact hs.sent p y hy
    · rw [List.mem_singleton.1 hy]; exact h2)
set_option maxHeartbeats 3200000 in
set_option maxRecDepth 100000 in
theorem prom_yes (p : Nat) (st sent : Nat) (hsent : sent < 4294967296) (hst : st < 18446744073709551616) (hs : s.Ok) (hlen : (s.l p).ws.length < 1000000) (h : HorAt B w O b s vs) (hp : p < 64) (hh : hasB s.oth p = true) :
    Calls Tryd.prog 15 #[.pointer (some ⟨b, 0, none⟩), .int .i64 p, .int .u64 st, .int .u32 sent] w fun e w' => e = .returned (.tuple #[]) ∧ HorTo B w O b (s.prom p st sent) w' := by
  have c1 := h.c1
  have hpI : (p : Int) < 64 := by omega
  have HC := fun w => has_any s.oth p hs.oth w
  rw [hh] at HC
  have HC := Lib.hid HC
  have HSee := Lib.hid (see_any st hs hst h)
  have HE := Lib.hid (show s.prom p st sent = (s.see st).set p (((s.see st).l p).more ⟨st, sent⟩).count from by rw [HS.prom, if_pos hh]; rfl)
  have hs1 := HS.see_ok hs hst
  have hl1 : ((s.see st).l p).ws.length < 1000000 := hlen
  have hob := h.ob
  generalize s.prom p st sent = t at *
  generalize s.see st = s1 at *
  clear hh h hlen hs
  go_enter Tryd.func15, Tryd.ntmps15
  go_wp2_with fail
  refine (HC.out _).mono ?_
  rintro e w' ⟨rfl, rfl⟩
  go_wp2_with fail
  refine HSee.out.mono ?_
  rintro e w2 ⟨rfl, h2, hk2⟩
  obtain ⟨d0, d1, d2, d3⟩ := h2.mrk p hp
  have f3 := fun W vs' (k : HorAt B W O b s1 vs') => k.fz (2 + p * 4 + 3)
  have hbA : Below w2.heap.size w2 (w2.alloc (.cells #[.int .u64 st, .int .u32 sent] 56)) := (Below.refl _ _).alloc (Nat.le_refl _) _
  have h3 := h2.below hbA
  have ho3 := h3.row p hp
  have hlo : B ≤ w2.heap.size := Nat.le_trans (h2.lo b h2.ob) (Nat.le_of_lt h2.lt)
  have hlv : Rd (w2.alloc (.cells #[.int .u64 st, .int .u32 sent] 56)) 2 (some ⟨w2.heap.size, 0, none⟩) 1 1 (pmF ⟨st, sent⟩) := Rd.blk1 (w := w2) (cs := pmF ⟨st, sent⟩) rfl rfl
  have HX := Lib.hid (fun (w4 : World) (v : Value) hg ho hv => HorAt.mored (w4 := w4) (v := v) (x := ⟨st, sent⟩) h3 hp hg ho hv)
  have HC4 := Lib.hid (fun (w4 : World) (hg : (w2.alloc (.cells #[.int .u64 st, .int .u32 sent] 56)).grownBy w4 (vs p).ownBlock) => show w4.cell? ⟨b, 2 + p * 4 + 3, none⟩ = some (vs p) ∧ w4.frozen? ⟨b, 2 + p * 4 + 3, none⟩ = false from by
    have hb4 : BlkAt w4 b 49 (horC s1 vs) := (hg.block b h3.lt (fun e => h3.nb p hp e.symm)).trans h3.blk
    exact ⟨hb4.cell ((rowC_at (pre := s1.pre) (f := fun i => mkC (s1.l i) (vs i)) (j := 3) (fun _ => rfl) hp (by decide)).trans rfl), hb4.fz _⟩)
  have HK2 := Lib.hid ((KpO.ofKp (O := O) hk2 hob).trans (KpO.ofBelow (O := O) hbA) (fun g hg => .inl hg))
  have hs2 := HS.more_ok hs1 p (x := ⟨st, sent⟩) hst hsent
  have HIN := Lib.hid (h2.own p hp)
  generalize vs p = sv at *
  clear HSee c1 h2 hk2 h3
  go_wp2_with (at_builtin; refine wpList_append_apart Tryd.pmE rfl (.tmp 28) (.tmp 32) rfl ho3 rfl hlv (by decide) rfl (by intro u' hu; simp [pmF] at hu; rcases hu with rfl | rfl <;> rfl) (by unfold maxLen; omega) (by omega) (by simpa using Nat.le_succ_of_le hlo) ?_; intro v' w4 hown' hg' hv'; obtain ⟨s4, f4⟩ := HC4.out _ hg'; have HY := Lib.hid (HX.out w4 v' hg' hown' hv'); replace hv' := Lib.hid hv'; obtain ⟨a4, c4, rfl, _⟩ := Rd.own hown')
  have hl2 : ((s1.set p ((s1.l p).more ⟨st, sent⟩)).l p).ws.length ≤ 1000000 := by
    rw [HS.set_at]
    show ((s1.l p).ws ++ [_]).length ≤ _
    rw [List.length_append]
    exact hl1
  refine (count_any p hp hs2 hl2 HY.out.1).mono ?_
  rintro e w5 ⟨rfl, v, h5, hv, hk5⟩
  go_wp2
  go_end0
  rw [HS.set_at, HS.set_set, ← HE.out] at h5
  have hsz := HK2.out.size
  have hnew : ∀ g, (O g ∨ (Value.slice a4 ((s1.l p).ws.length + 1) c4).ownBlock = some g) → O g ∨ w.heap.size ≤ g := fun g hg => by
    rcases hg with hg | hg
    · exact .inl hg
    · rcases hv'.out with h | h
      · exact .inl (HIN.out g (h.symm.trans hg))
      · exact .inr (Nat.le_trans hsz (h g hg))
  exact ⟨rfl, _, _, h5, (HK2.out.trans HY.out.2 (fun g hg => .inl hg)).trans hk5 hnew, hnew⟩
end
end Go.Proofs.YtmhckkcppmfjpaaDoor
