/- the horizon: an act of a script; what holds between the calls -/
import Derived.Test.YtmhckkcppmfjpaaDoorHorH
namespace Go.Proofs.YtmhckkcppmfjpaaDoor
open Go.RowKit Go.Sort

section
variable {B : Nat} {w w1 w' : World} {O : Nat → Prop} {b : Nat} {s t : HS} {vs : Nat → Value}
theorem HorTo.ofKp (h : HorAt B w' O b t vs) (k : Kp b w w') : HorTo B w O b t w' := ⟨O, vs, h, KpO.ofKp k h.ob, fun g hg => .inl hg⟩
theorem HorTo.pre (h : HorTo B w1 O b t w') (k : Below w.heap.size w w1) : HorTo B w O b t w' := by
  obtain ⟨O', vs, h1, h2, h3⟩ := h
  exact ⟨O', vs, h1, (KpO.ofBelow k).trans h2 (fun g hg => .inl hg), fun g hg => (h3 g hg).imp id (fun h => Nat.le_trans k.size h)⟩
theorem reached_any (p : Int) (st : Nat) (hs : s.Ok) (h : HorAt B w O b s vs) :
    Calls Tryd.prog 19 #[.pointer (some ⟨b, 0, none⟩), .int .i64 p, .int .u64 st] w fun e w' => e = .returned (.tuple #[]) ∧ HorTo B w O b (s.reach p st) w' := by
  cases hh : hasB s.oth p with
  | false =>
    refine (reached_no p st hs h hh).mono ?_
    rintro e w' ⟨rfl, rfl⟩
    rw [HS.reach, if_neg (by rw [hh]; decide)]
    exact ⟨rfl, HorTo.ofKp h (Kp.refl _ _)⟩
  | true =>
    obtain ⟨n, rfl, hn⟩ := hasB_nat hh
    refine (reached_yes n st hs h hn hh).mono ?_
    rintro e w' ⟨rfl, h1, h2⟩
    exact ⟨rfl, HorTo.ofKp h1 h2⟩
theorem prom_any (p : Int) (st sent : Nat) (hsent : sent < 4294967296) (hst : st < 18446744073709551616) (hs : s.Ok) (hlen : ∀ i, (s.l i).ws.length < 1000000) (h : HorAt B w O b s vs) :
    Calls Tryd.prog 15 #[.pointer (some ⟨b, 0, none⟩), .int .i64 p, .int .u64 st, .int .u32 sent] w fun e w' => e = .returned (.tuple #[]) ∧ HorTo B w O b (s.prom p st sent) w' := by
  cases hh : hasB s.oth p with
  | false =>
    refine (prom_no p st sent hs h hh).mono ?_
    rintro e w' ⟨rfl, rfl⟩
    rw [HS.prom, if_neg (by rw [hh]; decide)]
    exact ⟨rfl, HorTo.ofKp h (Kp.refl _ _)⟩
  | true =>
    obtain ⟨n, rfl, hn⟩ := hasB_nat hh
    exact prom_yes n st sent hsent hst hs (hlen n) h hn hh
end
/-- An act. -/
structure AcH where
  kind : Int
  p : Int
  seq : Nat
  st : Nat
def acC (x : AcH) : List Value := [.int .i64 x.kind, .int .i64 x.p, .int .u32 x.seq, .int .u64 x.st]
structure AcH.Ok (x : AcH) : Prop where
  seq : x.seq < 4294967296
  st : x.st < 18446744073709551616
def HS.act (s : HS) (a : AcH) : HS :=
  if a.kind = 0 then s.came a.p a.seq a.st else if a.kind = 1 then s.prom a.p a.st a.seq else if a.kind = 2 then s.reach a.p a.st else if a.kind = 3 then s.stamp else if a.kind = 4 then s.see a.st else s
def HS.ans (s : HS) (a : AcH) : Nat := if a.kind = 3 then s.stamp.clock else 0
section
variable {B : Nat} {w : World} {O : Nat → Prop} {b : Nat} {s : HS} {vs : Nat → Value}
set_option maxHeartbeats 3200000 in
set_option maxRecDepth 100000 in
theorem do_any (a : AcH) (ha : a.Ok) (hs : s.Ok) (hlen : ∀ i, (s.l i).ws.length < 1000000) (h : HorAt B w O b s vs) :
    Calls Tryd.prog 12 #[.pointer (some ⟨b, 0, none⟩), .agg #[.int .i64 a.kind, .int .i64 a.p, .int .u32 a.seq, .int .u64 a.st]] w fun e w' => e = .returned (.int .u64 (s.ans a)) ∧ HorTo B w O b (s.act a) w' := by
  obtain ⟨kind, p, seq, st⟩ := a
  obtain ⟨hseq, hst⟩ := ha
  simp only at hseq hst
  have hbx : Below w.heap.size w (w.alloc (.cells #[.int .i64 kind, .int .i64 p, .int .u32 seq, .int .u64 st] 32)) := (Below.refl _ _).alloc (Nat.le_refl _) _
  have h1 := h.below hbx
  clear h
  have HA := Lib.hid (show s.act ⟨kind, p, seq, st⟩ = (if kind = 0 then s.came p seq st else if kind = 1 then s.prom p st seq else if kind = 2 then s.reach p st else if kind = 3 then s.stamp else if kind = 4 then s.see st else s) from rfl)
  have HN := Lib.hid (show s.ans ⟨kind, p, seq, st⟩ = (if kind = 3 then s.stamp.clock else 0) from rfl)
  have hlen' : ∀ i, (s.l i).ws.length ≤ 1000000 := fun i => Nat.le_of_lt (hlen i)
  by_cases k0 : kind = 0
  · subst k0
    have H := Lib.hid (came_any p seq st hseq hst hs hlen' h1)
    have HA2 := Lib.hid (HA.out.trans (if_pos rfl))
    have HN2 := Lib.hid (HN.out.trans (if_neg (by decide)))
    clear h1 hlen hlen'
    (go_enter Tryd.func12, Tryd.ntmps12; go_wp2_with fail)
    generalize w.alloc _ = w1 at *
    refine H.out.mono ?_
    rintro e w2 ⟨rfl, ht⟩
    go_wp2
    go_ret
    exact ⟨by rw [HN2.out]; rfl, by rw [HA2.out]; exact ht.pre hbx⟩
  by_cases k1 : kind = 1
  · subst k1
    have H := Lib.hid (prom_any p st seq hseq hst hs hlen h1)
    have HA2 := Lib.hid (HA.out.trans ((if_neg (by decide)).trans (if_pos rfl)))
    have HN2 := Lib.hid (HN.out.trans (if_neg (by decide)))
    clear h1 hlen hlen' k0
    (go_enter Tryd.func12, Tryd.ntmps12; go_wp2_with fail)
    generalize w.alloc _ = w1 at *
    refine H.out.mono ?_
    rintro e w2 ⟨rfl, ht⟩
    go_wp2
    go_ret
    exact ⟨by rw [HN2.out]; rfl, by rw [HA2.out]; exact ht.pre hbx⟩
  by_cases k2 : kind = 2
  · subst k2
    have H := Lib.hid (reached_any p st hs h1)
    have HA2 := Lib.hid (HA.out.trans ((if_neg (by decide)).trans ((if_neg (by decide)).trans (if_pos rfl))))
    have HN2 := Lib.hid (HN.out.trans (if_neg (by decide)))
    clear h1 hlen hlen' k0 k1
    (go_enter Tryd.func12, Tryd.ntmps12; go_wp2_with fail)
    generalize w.alloc _ = w1 at *
    refine H.out.mono ?_
    rintro e w2 ⟨rfl, ht⟩
    go_wp2
    go_ret
    exact ⟨by rw [HN2.out]; rfl, by rw [HA2.out]; exact ht.pre hbx⟩
  by_cases k3 : kind = 3
  · subst k3
    have H := Lib.hid (stamp_any hs h1)
    have HA2 := Lib.hid (HA.out.trans ((if_neg (by decide)).trans ((if_neg (by decide)).trans ((if_neg (by decide)).trans (if_pos rfl)))))
    have HN2 := Lib.hid (HN.out.trans (if_pos rfl))
    clear h1 hlen hlen' k0 k1 k2
    (go_enter Tryd.func12, Tryd.ntmps12; go_wp2_with fail)
    generalize w.alloc _ = w1 at *
    refine H.out.mono ?_
    rintro e w2 ⟨rfl, h2, hk2⟩
    have ht := HorTo.ofKp h2 hk2
    generalize s.stamp.clock = c at *
    go_wp2
    go_ret
    exact ⟨by rw [HN2.out]; rfl, by rw [HA2.out]; exact ht.pre hbx⟩
  by_cases k4 : kind = 4
  · subst k4
    have H := Lib.hid (see_any st hs hst h1)
    have HA2 := Lib.hid (HA.out.trans ((if_neg (by decide)).trans ((if_neg (by decide)).trans ((if_neg (by decide)).trans ((if_neg (by decide)).trans (if_pos rfl))))))
    have HN2 := Lib.hid (HN.out.trans (if_neg (by decide)))
    clear h1 hlen hlen' k0 k1 k2 k3
    (go_enter Tryd.func12, Tryd.ntmps12; go_wp2_with fail)
    generalize w.alloc _ = w1 at *
    refine H.out.mono ?_
    rintro e w2 ⟨rfl, h2, hk2⟩
    have ht := HorTo.ofKp h2 hk2
    go_wp2
    go_ret
    exact ⟨by rw [HN2.out]; rfl, by rw [HA2.out]; exact ht.pre hbx⟩
  · have HA2 := Lib.hid (HA.out.trans ((if_neg k0).trans ((if_neg k1).trans ((if_neg k2).trans ((if_neg k3).trans (if_neg k4))))))
    have HN2 := Lib.hid (HN.out.trans (if_neg k3))
    have e0 : (kind == 0) = false := by rw [beq_eq_false_iff_ne]; exact k0
    have e1 : (kind == 1) = false := by rw [beq_eq_false_iff_ne]; exact k1
    have e2 : (kind == 2) = false := by rw [beq_eq_false_iff_ne]; exact k2
    have e3 : (kind == 3) = false := by rw [beq_eq_false_iff_ne]; exact k3
    have e4 : (kind == 4) = false := by rw [beq_eq_false_iff_ne]; exact k4
    have ht := HorTo.ofKp h1 (Kp.refl b _)
    clear h1 hlen hlen'
    (go_enter Tryd.func12, Tryd.ntmps12; go_wp2_with fail)
    go_ret
    exact ⟨by rw [HN2.out]; rfl, by rw [HA2.out]; exact ht.pre hbx⟩
end
theorem hfilter_len (m : Mk) : m.count.ws.length ≤ m.ws.length := List.length_filter_le _ _
theorem HS.set_len {s : HS} {k : Nat} (h : ∀ i, (s.l i).ws.length ≤ k) (p : Nat) {x : Mk} (hx : x.ws.length ≤ k) : ∀ i, ((s.set p x).l i).ws.length ≤ k := fun i => by
  show (if i = p then x else s.l i).ws.length ≤ k
  split
  · exact hx
  · exact h i
theorem HS.act_len {s : HS} {k : Nat} (h : ∀ i, (s.l i).ws.length ≤ k) (a : AcH) : ∀ i, ((s.act a).l i).ws.length ≤ k + 1 := by
  have h' : ∀ i, (s.l i).ws.length ≤ k + 1 := fun i => Nat.le_succ_of_le (h i)
  unfold HS.act
  split
  · unfold HS.came; split
    · exact HS.set_len (s := s.see a.st) h' _ (Nat.le_trans (hfilter_len _) (h' _))
    · exact h'
  split
  · unfold HS.prom; split
    · refine HS.set_len (s := s.see a.st) h' _ (Nat.le_trans (hfilter_len _) ?_)
      show ((s.l a.p.toNat).ws ++ [_]).length ≤ k + 1
      rw [List.length_append]
      exact Nat.succ_le_succ (h _)
    · exact h'
  split
  · unfold HS.reach; split
    · exact HS.set_len h' _ (h' _)
    · exact h'
  split
  · exact h'
  split
  · exact h'
  · exact h'
theorem Mk.count_ok {s : HS} (hs : s.Ok) (p : Nat) {m : Mk} (h1 : m.heard < 18446744073709551616) (h2 : m.reached < 18446744073709551616) (h3 : m.came < 4294967296) (h4 : PmsOk m.ws) : (s.set p m.count).Ok :=
  HS.set_ok hs p (hfold_lt h4 h1) h2 h3 (h4.filter _).st (h4.filter _).sent
theorem HS.came_ok {s : HS} (h : s.Ok) (p : Int) {seq st : Nat} (h1 : seq < 4294967296) (h2 : st < 18446744073709551616) : (s.came p seq st).Ok := by
  unfold HS.came; split
  · exact Mk.count_ok (HS.see_ok h h2) _ (Nat.max_lt.2 ⟨h.heard _, h2⟩) (h.reached _) h1 ⟨h.st _, h.sent _⟩
  · exact h
theorem HS.prom_ok {s : HS} (h : s.Ok) (p : Int) {st sent : Nat} (h1 : sent < 4294967296) (h2 : st < 18446744073709551616) : (s.prom p st sent).Ok := by
  unfold HS.prom; split
  · refine Mk.count_ok (HS.see_ok h h2) _ (h.heard _) (h.reached _) (h.came _) ⟨fun y hy => ?_, fun y hy => ?_⟩
    · rcases List.mem_append.1 hy with hy | hy
      · exact h.st _ y hy
      · rw [List.mem_singleton.1 hy]; exact h2
    · rcases List.mem_append.1 hy with hy | hy
      · exact h.sent _ y hy
      · rw [List.mem_singleton.1 hy]; exact h1
  · exact h
theorem HS.act_ok {s : HS} (h : s.Ok) {a : AcH} (ha : a.Ok) : (s.act a).Ok := by
  unfold HS.act
  split
  · exact HS.came_ok h _ ha.seq ha.st
  split
  · exact HS.prom_ok h _ ha.seq ha.st
  split
  · exact HS.reach_ok h _ ha.st
  split
  · exact HS.stamp_ok h
  split
  · exact HS.see_ok h ha.st
  · exact h
theorem HS.act_oth (s : HS) (a : AcH) : (s.act a).oth = s.oth := by
  unfold HS.act HS.came HS.prom HS.reach
  repeat' split
  all_goals rfl

/-- What holds between the calls: the horizon, its state of a decent size, nothing old turned. -/
structure HEn (w0 : World) (b : Nat) (s : HS) (k : Nat) (O : Nat → Prop) (W : World) : Prop where
  at_ : ∃ vs, HorAt w0.heap.size W O b s vs
  bel : Below w0.heap.size w0 W
  ok : s.Ok
  len : ∀ i, (s.l i).ws.length ≤ k
section
variable {w0 : World} {b k : Nat} {s t : HS} {O O' : Nat → Prop} {W W' : World}
theorem HEn.below (h : HEn w0 b s k O W) (hb : Below W.heap.size W W') : HEn w0 b s k O W' := by
  obtain ⟨vs, h1⟩ := h.at_
  exact ⟨⟨vs, h1.below hb⟩, h.bel.trans (hb.mono h.bel.size), h.ok, h.len⟩
theorem HEn.frame (h : HEn w0 b s k O W) (hk : KpO O' W W') (hd : ∀ g, O g → ¬ O' g) (hlo : ∀ g, O' g → w0.heap.size ≤ g) : HEn w0 b s k O W' := by
  obtain ⟨vs, h1⟩ := h.at_
  exact ⟨⟨vs, h1.frame hk hd⟩, KpO.below h.bel hk hlo h.bel.size, h.ok, h.len⟩
theorem HEn.lo (h : HEn w0 b s k O W) : ∀ g, O g → w0.heap.size ≤ g := by
  obtain ⟨vs, h1⟩ := h.at_
  exact h1.lo
theorem HEn.hi (h : HEn w0 b s k O W) : ∀ g, O g → g < W.heap.size := by
  obtain ⟨vs, h1⟩ := h.at_
  exact h1.hi
theorem HEn.tab (h : HEn w0 b s k O W) (hT : Tab w0) : Tab W := hT.below h.bel hT.1
theorem HEn.to (h : HEn w0 b s k O W) (ht : HorTo w0.heap.size W O b t W') (hok : t.Ok) {k' : Nat} (hlen : ∀ i, (t.l i).ws.length ≤ k') : ∃ O', HEn w0 b t k' O' W' ∧ KpO O W W' ∧ ∀ g, O' g → O g ∨ W.heap.size ≤ g := by
  obtain ⟨O', vs, h1, h2, h3⟩ := ht
  exact ⟨O', ⟨⟨vs, h1⟩, KpO.below h.bel h2 h.lo h.bel.size, hok, hlen⟩, h2, h3⟩
def HNx (w0 : World) (b : Nat) (t : HS) (k : Nat) (O : Nat → Prop) (W W' : World) : Prop := ∃ O', HEn w0 b t k O' W' ∧ KpO O W W' ∧ ∀ g, O' g → O g ∨ W.heap.size ≤ g
theorem HEn.act (h : HEn w0 b s k O W) (hk : k < 1000000) (a : AcH) (ha : a.Ok) :
    Calls Tryd.prog 12 #[.pointer (some ⟨b, 0, none⟩), .agg #[.int .i64 a.kind, .int .i64 a.p, .int .u32 a.seq, .int .u64 a.st]] W fun e w' => e = .returned (.int .u64 (s.ans a)) ∧ HNx w0 b (s.act a) (k + 1) O W w' := by
  obtain ⟨vs, h1⟩ := h.at_
  refine (do_any a ha h.ok (fun i => Nat.lt_of_le_of_lt (h.len i) hk) h1).mono ?_
  rintro e w' ⟨rfl, ht⟩
  exact ⟨rfl, h.to ht (HS.act_ok h.ok ha) (HS.act_len h.len a)⟩
theorem HEn.all (h : HEn w0 b s k O W) (hT : Tab w0) :
    Calls Tryd.prog 9 #[.pointer (some ⟨b, 0, none⟩)] W fun e w' => e = .returned (.int .u64 s.all) ∧ Below W.heap.size W w' := by
  obtain ⟨vs, h1⟩ := h.at_
  exact all_any h.ok h1 (h.tab hT)
theorem HEn.safe (h : HEn w0 b s k O W) (hT : Tab w0) :
    Calls Tryd.prog 10 #[.pointer (some ⟨b, 0, none⟩)] W fun e w' => e = .returned (.int .u64 s.safe) ∧ Below W.heap.size W w' := by
  obtain ⟨vs, h1⟩ := h.at_
  exact safe_any h.ok h1 (h.tab hT)
theorem HEn.clock (h : HEn w0 b s k O W) :
    Calls Tryd.prog 11 #[.pointer (some ⟨b, 0, none⟩)] W fun e w' => e = .returned (.int .u64 s.clock) ∧ W = w' := by
  obtain ⟨vs, h1⟩ := h.at_
  exact clock_any h1
theorem HEn.new (me : Int) (x : Nat) (hx : x < 18446744073709551616) (hb : Below w0.heap.size w0 W) :
    Calls Tryd.prog 8 #[.int .i64 me, .int .u64 x] W fun e w' => ∃ b, e = .returned (.pointer (some ⟨b, 0, none⟩)) ∧ HEn w0 b (HS.nw me x) 0 (fun g => g = b) w' ∧ W.heap.size ≤ b ∧ Below W.heap.size W w' := by
  refine (hor_new me x hx W).mono ?_
  rintro e w' ⟨b, rfl, h1, h2, h3⟩
  refine ⟨b, rfl, ⟨⟨nilV, ?_⟩, hb.trans (h3.mono hb.size), HS.nw_ok me hx, fun i => Nat.zero_le _⟩, h1, h3⟩
  exact ⟨h2.blk, fun i _ => World.ownsRow_nil _ _ _ _, h2.sep, h2.own, h2.nb, h2.ob, fun g hg => Nat.le_trans hb.size (h2.lo g hg), h2.hi⟩
end
end Go.Proofs.YtmhckkcppmfjpaaDoor
