/- filter: a script's step on a filter; rows of outs that grow -/
import Derived.Test.YteeeikkapnchlaaDoorFilO
namespace Go.Proofs.YteeeikkapnchlaaDoor
set_option linter.unusedSimpArgs false
set_option linter.unusedVariables false
open Go.RowKit Go.Sort
/-- 'append(v, x...)', x from anywhere: where the row lies then. -/
theorem wpList_append_gen {P : Program} {w : World} {ops : Array Oper} {rest : List Oper} {o : Oper} {a : Act} {Q : Exit → Act → World → Prop} {t e : TypeId} {z : Value} {size bytes : Nat} (E : Elt P t e z size bytes) (hgd : o.guard = none) (s x : Operand)
    (ho : o.op = .call { callee := .builtin .append, args := #[s, x], argTypes := #[t, t] })
    {base : Nat} {v : Value} {n : Nat} {xs : List Value} (hown : w.ownsRow base e size v n xs) (hs : a.eval s = v)
    {xa : Option Addr} {m c : Nat} {news : List Value} (hr : Rd w size xa m c news) (hx : a.eval x = .slice xa m c) (h1 : ∀ u ∈ news, u.oneCell' = true)
    (h63 : n + m ≤ maxLen) (hbytes : (n + m) * bytes ≤ 140737488355328) (hbase : base ≤ w.heap.size)
    (h : ∀ v' w', w'.ownsRow base e size v' (n + m) (xs ++ news) → w.grownBy w' v.ownBlock → (v'.ownBlock = v.ownBlock ∨ ∀ k, v'.ownBlock = some k → w.heap.size ≤ k) → wpList P ops Q rest (a.put o.dst v') w') : wpList P ops Q (o :: rest) a w := by
  by_cases hm : m = 0
  · subst hm
    have hn : news = [] := List.eq_nil_of_length_eq_zero (by simpa using hr.length_eq)
    subst hn
    obtain ⟨i, hi, hz0, hz1, hz2⟩ := info_parts E.info
    cases xa with
    | none =>
      obtain ⟨_, rfl⟩ := hr.1.2.2.2 rfl
      refine wpList_append_own_none hgd s x t ho base e i size E.ty hi v n xs hs hown hx ?_
      exact h v w (by simpa using hown) ⟨rfl, rfl, rfl, Nat.le_refl _, fun _ _ _ => rfl⟩ (.inl rfl)
    | some ad =>
      have hown' := hown
      obtain ⟨hl, h2⟩ := hown
      rcases h2 with ⟨rfl, rfl⟩ | ⟨g, cap, cur, rfl, hb, hg, hle, hmx, hsz, htk⟩
      · refine wpList_append_own w hgd s x t ho base e i z size bytes E.ty hi hz0 hz1 hz2 E.cells E.pos _ _ xs hs hown' ad 0 c [] hx (by simp) (fun j u hu => by simp at hu) h1 h63 hbytes hbase ?_
        intro v' w' r1 r2 r3
        have := r3.2 ⟨rfl, rfl⟩
        subst this
        exact h _ _ r1 r2 (.inl rfl)
      · refine wpList_plain hgd fun K hK' => ?_
        obtain ⟨v', w', hr', h2, h3, _⟩ := run_append_own (P := P) w base t o.type e i z size bytes E.ty hi hz0 hz1 hz2 E.cells E.pos _ n xs hown' ad 0 c [] (by simp) (fun j u hu => by simp at hu) h1 h63 hbytes hbase
        have hr2 := run_append_room_cells (P := P) w t o.type e i E.ty hi g 0 n cap ad 0 c [] (by simp) (fun j u hu => by simp at hu) h1 (by omega) (fun j hj => by
            rw [hz1, cell_of_row w g _ _ _ _ hg, Array.getElem?_eq_getElem]
            · rfl
            · rw [hsz]
              have : (n + 0) * size ≤ cap * size := Nat.mul_le_mul_right _ (by omega)
              simp at hj) (fun j _ => frozen_of_row w g _ _ _ hg)
        rw [hr'] at hr2
        injection hr2 with e1 e2
        unfold Oper.wp
        simp [execOp, ho, resolve, invoke, builtin, hs, hx, hr', Result.andThen]
        exact hK' _ _ (h v' w' h2 h3 (.inl (by rw [e1]; rfl)))
  · obtain ⟨b, off, rfl, _⟩ := Rd.addr hr (by omega)
    exact wpList_append_apart E hgd s x ho hown hs hr (by omega) hx h1 h63 hbytes hbase h
/-- A call, without where it lies. -/
def doV (s : Fs) (y : Ac) : Fs × List Ov :=
  if y.kind = 0 then (regS s y.ce y.cr y.mem, [regO s y.x.v]) else if y.kind = 1 then ({ s with live := false }, []) else delS s y.frm y.x.v
theorem try_few (s : Fs) : (tryS s).2.length ≤ 2 := by
  unfold tryS
  split
  · exact Nat.le_refl _
  · exact Nat.zero_le _
theorem del_few (s : Fs) (p : Int) (x : Itm) : (delS s p x).2.length ≤ 2 := by
  unfold delS
  split
  · exact Nat.zero_le _
  · split
    · split
      · exact try_few _
      · exact Nat.zero_le _
    · split
      · split
        · show 1 ≤ 2; omega
        · exact Nat.zero_le _
      · exact Nat.zero_le _
theorem do_few (s : Fs) (y : Ac) : (doV s y).2.length ≤ 2 := by
  unfold doV
  split
  · show 1 ≤ 2; omega
  · split
    · exact Nat.zero_le _
    · exact del_few _ _ _
section
variable {w0 w w' : World} {F F' : Nat → Prop} {l : List (Nat × Fw)} {i b : Nat} {s s' : Fw}
set_option maxHeartbeats 3200000 in
set_option maxRecDepth 100000 in
theorem FL.act (h : FL w0 w F l) (hi : l[i]? = some (b, s)) (y : Ac) (hy : AcOk w y) (hyw : y.x.v.Wf) :
    Calls Tryd.prog 20 #[.pointer (some ⟨b, 0, none⟩), .agg (acA y)] w fun e w' => ∃ (s' : Fw) (F' : Nat → Prop) (a : Option Addr) (n c : Nat) (os : List Ow), e = .returned (.slice a n c) ∧ FL w0 w' F' (l.set i (b, s')) ∧ s'.s = (doV s.s y).1 ∧ (∀ g, F g → F' g) ∧ (∀ g, F' g → F g ∨ w.heap.size ≤ g) ∧ RdO F' w' a n c os ∧ os.map (·.v) = (doV s.s y).2 ∧ KpO (OwnF b s.mb) w w' := by
  have hb1 := alloc_below w (.cells (acA y) 58)
  have hY1 := BlkAt.new w 58 (acA y)
  have hL1 := Lib.hid (h.below hb1)
  have hy1 := Lib.hid (hy.below hb1)
  have hkb := Lib.hid (KpO.ofBelow (O := OwnF b s.mb) hb1)
  have hsz := hb1.size
  have hmoreA : Hid (∀ {F' : Nat → Prop}, (∀ g, F' g → F g ∨ (w.alloc (.cells (acA y) 58)).heap.size ≤ g) → ∀ g, F' g → F g ∨ w.heap.size ≤ g) := Lib.hid (fun h2 g hg => (h2 g hg).elim .inl (fun e => .inr (Nat.le_trans hsz e)))
  have k0 : (w.alloc (.cells (acA y) 58)).cell? ⟨w.heap.size, 0, none⟩ = some (.int .i64 y.kind) := hY1.cell rfl
  have k1 : (w.alloc (.cells (acA y) 58)).cell? ⟨w.heap.size, 1, none⟩ = some (.int .i64 y.frm) := hY1.cell rfl
  have k5 : (w.alloc (.cells (acA y) 58)).cell? ⟨w.heap.size, 5, none⟩ = some (.int .u64 y.mem) := hY1.cell rfl
  have hcI := Tryd.confI y.ce y.cr
  have hiI2 := Tryd.iwI y.x
  clear h hy hb1
  by_cases e0 : y.kind = 0
  · have e0b : (y.kind == 0) = true := by simpa using e0
    have hz := Lib.hid (show doV s.s y = (regS s.s y.ce y.cr y.mem, [regO s.s y.x.v]) from if_pos e0)
    have HR := Lib.hid (regular_any s b y.x y.ce y.cr y.mem hy1.out.mem hy1.out.vw _ hL1.out.fin (hL1.out.at_ i _ hi))
    clear e0
    go_enter Tryd.func20, Tryd.ntmps20
    go_wp2_with (first
      | (refine wpList_blk_box rfl (.tmp 1) rfl rfl w.heap.size rfl ?_)
      | (refine wpList_blk_get (cs := #[.int .u64 y.ce, .int .i64 y.cr]) rfl (.tmp 10) rfl rfl hY1 Tryd.underlying30 rfl hcI (acA_conf y) ?_)
      | (refine wpList_blk_get (cs := iwA y.x) rfl (.tmp 14) rfl rfl hY1 Tryd.underlying45 rfl hiI2 (acA_item y) ?_))
    refine HR.out.mono ?_
    rintro e w' ⟨s', m, a, c, o, rfl, hA, hs, hm, hmb, hO, hv, hf, hk⟩
    have hk2 : KpO (OwnF b s.mb) (w.alloc (.cells (acA y) 58)) w' := hk.weak (fun g hg => hg.elim .inl (fun e => by cases e))
    have h2 : ∀ g, (F g ∨ g = m) → F g ∨ (w.alloc (.cells (acA y) 58)).heap.size ≤ g := fun g hg => hg.elim .inl (fun e => .inr (by omega))
    have hFL : FL w0 w' (fun g => F g ∨ g = m) (l.set i (b, s')) := hL1.out.step hi (fun _ hg => .inl hg) h2 (fun g hg => by
      rcases hg with hg | rfl
      · exact Nat.lt_of_lt_of_le (hL1.out.fin g hg) hk.size
      · exact (hA.map _ hmb).1.lt) hA hk2 (fun m' e => .inr (by rw [hmb] at e; injection e with e; omega))
    replace hFL := Lib.hid hFL
    replace hO := Lib.hid hO
    have hkF := Lib.hid (hkb.out.trans hk2 (fun g hg => .inl hg))
    have hm2 := hmoreA.out h2
    clear hA hm hk hk2 h2 k0 k1 k5 hY1 HR hL1 hy1 hkb hmoreA hsz hf
    go_wp2
    go_ret
    exact ⟨s', fun g => F g ∨ g = m, a, 1, c, [o], rfl, hFL.out, by rw [hz.out]; exact hs, fun _ hg => .inl hg, hm2, hO.out, by rw [hz.out]; show [o.v] = _; rw [hv], hkF.out⟩
  · have e0b : (y.kind == 0) = false := by simpa using e0
    by_cases e1 : y.kind = 1
    · have e1b : (y.kind == 1) = true := by simpa using e1
      have hz := Lib.hid (show doV s.s y = ({ s.s with live := false }, []) from by unfold doV; rw [if_neg e0, if_pos e1])
      have HC := Lib.hid (closeA s b _ (hL1.out.at_ i _ hi))
      clear e0 e1
      go_enter Tryd.func20, Tryd.ntmps20
      go_wp2_with (first
        | (refine wpList_blk_box rfl (.tmp 1) rfl rfl w.heap.size rfl ?_))
      refine HC.out.mono ?_
      rintro e w' ⟨rfl, hA, hk⟩
      have hk2 : KpO (OwnF b s.mb) (w.alloc (.cells (acA y) 58)) w' := KpO.ofKp hk (.inl rfl)
      have hFL := Lib.hid (hL1.out.step hi (fun _ hg => hg) (fun _ hg => .inl hg) (fun g hg => Nat.lt_of_lt_of_le (hL1.out.fin g hg) hk.size) hA hk2 (fun m e => .inl e))
      have hkF := Lib.hid (hkb.out.trans hk2 (fun g hg => .inl hg))
      clear hA hk hk2 k0 k1 k5 hY1 HC hL1 hy1 hkb hmoreA hsz
      go_wp2
      go_ret
      exact ⟨{ s with live := false }, F, none, 0, 0, [], rfl, hFL.out, by rw [hz.out]; rfl, fun _ hg => hg, fun _ hg => .inl hg, RdO.nil, by rw [hz.out]; rfl, hkF.out⟩
    · have e1b : (y.kind == 1) = false := by simpa using e1
      have hz := Lib.hid (show doV s.s y = delS s.s y.frm y.x.v from by unfold doV; rw [if_neg e0, if_neg e1])
      have HD := Lib.hid (deliver_any s b y.frm y.x _ hL1.out.tab hL1.out.fin (hL1.out.at_ i _ hi) hy1.out.rd hyw)
      clear e0 e1
      go_enter Tryd.func20, Tryd.ntmps20
      go_wp2_with (first
        | (refine wpList_blk_box rfl (.tmp 1) rfl rfl w.heap.size rfl ?_)
        | (refine wpList_blk_get (cs := iwA y.x) rfl (.tmp 24) rfl rfl hY1 Tryd.underlying45 rfl hiI2 (acA_item y) ?_))
      refine HD.out.mono ?_
      rintro e w' ⟨s', a, n, c, os, rfl, hA, hs, hm, hO, hv, hf, hk⟩
      have hFL := Lib.hid (hL1.out.step hi (fun _ hg => hg) (fun _ hg => .inl hg) (fun g hg => Nat.lt_of_lt_of_le (hL1.out.fin g hg) hk.size) hA hk (fun m e => .inl (hm ▸ e)))
      have hkF := Lib.hid (hkb.out.trans hk (fun g hg => .inl hg))
      replace hO := Lib.hid hO
      clear hA hm hk k0 k1 k5 hY1 HD hL1 hy1 hkb hmoreA hsz hf
      go_wp2
      go_ret
      exact ⟨s', F, a, n, c, os, rfl, hFL.out, by rw [hz.out]; exact hs, fun _ hg => hg, fun _ hg => .inl hg, hO.out, by rw [hz.out]; exact hv, hkF.out⟩
end
/-- A row of outs of one's own: its block is one of F's. -/
structure OwG (F : Nat → Prop) (B : Nat) (w : World) (v : Value) (n : Nat) (os : List Ow) : Prop where
  own : w.ownsRow B 47 29 v n (os.flatMap owC)
  inF : ∀ g, v.ownBlock = some g → F g
  inn : ∀ o ∈ os, OwF F w o
section
variable {w0 w w' : World} {F F' O : Nat → Prop} {l : List (Nat × Fw)} {B i b n : Nat} {s : Fw} {v v' : Value} {os : List Ow}
theorem own_heap {e : TypeId} {sz : Nat} {xs : List Value} (h : w.ownsRow B e sz v n xs) {g : Nat} (hg : v.ownBlock = some g) : ∃ cur, w.heap[g]? = some (.cells cur e (0, 0)) := by
  rcases h.2 with ⟨rfl, _⟩ | ⟨g', cap, cur, rfl, hb, hg', _⟩
  · cases hg
  · injection hg with hg; subst hg; exact ⟨cur, hg'⟩
theorem FAt.apart (h : FAt F w b s) {e : TypeId} (he : e ≠ 71) {sz : Nat} {xs : List Value} (hr : w.ownsRow B e sz v n xs) {g : Nat} (hg : v.ownBlock = some g) : ¬ OwnF b s.mb g := by
  obtain ⟨cur, hc⟩ := own_heap hr hg
  rintro (rfl | hm)
  · have := h.blk
    unfold BlkAt at this
    rw [hc] at this
    injection this with this
    injection this with _ e2
    exact he e2
  · obtain ⟨es, clock, hb, _⟩ := (h.map g hm).1
    rw [hc] at hb
    cases hb
theorem OwG.nil : OwG F B w (.slice none 0 0) 0 [] := ⟨World.ownsRow_nil _ _ _ _, (fun g e => by cases e), fun o ho => by cases ho⟩
theorem OwG.kpO (h : OwG F B w v n os) (hk : KpO O w w') (hO : ∀ g, O g → F g) (hn : ∀ g, v.ownBlock = some g → ¬ O g) : OwG F B w' v n os :=
  ⟨own_keep h.own (fun g e hlt => hk.block g hlt (hn g e)), h.inF, fun o ho => (h.inn o ho).kpO hk hO⟩
theorem OwG.more (h : OwG F B w v n os) (h1 : ∀ g, F g → F' g) (h2 : ∀ g, F' g → F g ∨ w.heap.size ≤ g) : OwG F' B w v n os :=
  ⟨h.own, fun g e => h1 g (h.inF g e), fun o ho => (h.inn o ho).more h2⟩
theorem OwG.below (h : OwG F B w v n os) (hb : Below w.heap.size w w') : OwG F B w' v n os := ⟨own_belowB h.own hb, h.inF, fun o ho => (h.inn o ho).below hb⟩
/-- A row grows: the filters, and what is off F, stay. -/
theorem FL.grown (h : FL w0 w F l) (hg : w.grownBy w' v.ownBlock) (hF : ∀ g, v.ownBlock = some g → F g) (hr : ∀ g, v.ownBlock = some g → ∀ (i : Nat) (p : Nat × Fw), l[i]? = some p → ¬ OwnF p.1 p.2.mb g) (hv : ∀ g, v'.ownBlock = some g → g < w'.heap.size ∧ (F g ∨ w.heap.size ≤ g)) : FL w0 w' (fun g => F g ∨ v'.ownBlock = some g) l := by
  have hk : KpO (fun g => v.ownBlock = some g) w w' := KpO.ofGrown hg (fun k e => e)
  have h2 : ∀ g, (F g ∨ v'.ownBlock = some g) → F g ∨ w.heap.size ≤ g := fun g hx => hx.elim .inl (fun e => (hv g e).2)
  refine ⟨fun i p hp => ((h.at_ i p hp).more h2 (fun g hx => .inl hx)).kpO hk (fun g e => .inl (hF g e)) (fun e => hr _ e i p hp (.inl rfl)) (fun m e e2 => hr _ e2 i p hp (.inr e)), h.dis, fun g hx => ?_, fun g hx => ?_, ?_, h.tab.kpO hk (fun e => ?_), h.pos⟩
  · rcases hx with hx | hx
    · exact Nat.lt_of_lt_of_le (h.fin g hx) hg.size
    · exact (hv g hx).1
  · rcases h2 g hx with hx | hx
    · exact h.new g hx
    · exact Nat.le_trans h.bel.size hx
  · exact KpO.below h.bel hk (fun g e => h.new g (hF g e)) h.bel.size
  · have := h.new 0 (hF 0 e)
    have := h.pos
    omega
theorem OwG.push {m : Nat} {ps : List Ow} (h : OwG F B w v n os) (hx : ∀ p ∈ ps, OwF F w p) (ho : w'.ownsRow B 47 29 v' (n + m) (os.flatMap owC ++ ps.flatMap owC)) (hg : w.grownBy w' v.ownBlock) (hv : v'.ownBlock = v.ownBlock ∨ ∀ k, v'.ownBlock = some k → w.heap.size ≤ k) : OwG (fun g => F g ∨ v'.ownBlock = some g) B w' v' (n + m) (os ++ ps) := by
  refine ⟨by rw [List.flatMap_append]; exact ho, fun g e => .inr e, fun y hy => ?_⟩
  have hy' : OwF F w y := by
    rcases List.mem_append.1 hy with hy | hy
    · exact h.inn y hy
    · exact hx y hy
  refine (hy'.more (F' := fun g => F g ∨ v'.ownBlock = some g) (fun g hf => hf.elim .inl (fun e => ?_))).kpO (KpO.ofGrown (O := fun g => v.ownBlock = some g) hg (fun k e => e)) (fun g e => .inl (h.inF g e))
  rcases hv with hv | hv
  · exact .inl (h.inF g (hv ▸ e))
  · exact .inr (hv g e)
theorem OwG.rdO {a : Option Addr} {c : Nat} (h : OwG F B w (.slice a n c) n os) : RdO (fun _ => False) w a n c os := by
  obtain ⟨_, _, e, hrd⟩ := Rd.own h.own
  injection e with e1 _ e3
  subst e1 e3
  exact ⟨⟨hrd, fun _ g off e hg => hg⟩, fun o ho => (h.inn o ho).less (fun g hg => hg.elim)⟩
theorem OwG.len (h : OwG F B w v n os) : os.length = n := by
  have := h.own.1
  rw [flatMap_len owC_len] at this
  omega
end
end Go.Proofs.YteeeikkapnchlaaDoor
