/- filter: FilterOne: what is kept between its calls -/
import Derived.Test.YteeeikkapnchlaaDoorFilS
namespace Go.Proofs.YteeeikkapnchlaaDoor
set_option linter.unusedSimpArgs false
set_option linter.unusedVariables false
open Go.RowKit Go.Sort
theorem Tryd.fpE : Elt Tryd.prog 31 39 (.pointer none) 1 8 := ⟨by kernel_rfl, by kernel_rfl, rfl, by decide⟩
theorem Tryd.fintE : Elt Tryd.prog 33 3 (.int .i64 0) 1 8 := ⟨by kernel_rfl, by kernel_rfl, rfl, by decide⟩
def ptrC (b : Nat) : Value := .pointer (some ⟨b, 0, none⟩)
def intC (p : Nat) : Value := .int .i64 p
/-- A row of one's own, its block one of F's. -/
structure RoG (F : Nat → Prop) (B : Nat) (e : TypeId) (sz : Nat) (w : World) (v : Value) (n : Nat) (xs : List Value) : Prop where
  own : w.ownsRow B e sz v n xs
  inF : ∀ g, v.ownBlock = some g → F g
structure OS (w3 wr : World) (F : Nat → Prop) (l : List (Nat × Fw)) (fv rv mv ov : Value) (ps : List Nat) (xs : List Iw) (fm : List Nat) (os : List Ow) : Prop where
  fl : FL w3 wr F l
  fr : RoG F w3.heap.size 39 1 wr fv ps.length (ps.map ptrC)
  it : RoG F w3.heap.size 45 18 wr rv xs.length (xs.flatMap iwC)
  itI : ∀ x ∈ xs, InF F wr x ∧ x.v.Wf
  fm : RoG F w3.heap.size 3 1 wr mv fm.length (fm.map intC)
  fo : OwG F w3.heap.size wr ov os.length os
theorem own_ne {w : World} {B B' : Nat} {e e' : TypeId} {sz sz' n n' : Nat} {v v' : Value} {xs xs' : List Value} (h : w.ownsRow B e sz v n xs) (h' : w.ownsRow B' e' sz' v' n' xs') (he : e ≠ e') {g : Nat} (hg : v.ownBlock = some g) : v'.ownBlock ≠ some g := fun hg' => by
  obtain ⟨c1, h1⟩ := own_heap h hg
  obtain ⟨c2, h2⟩ := own_heap h' hg'
  rw [h1] at h2
  injection h2 with h2
  injection h2 with _ h2
  exact he h2
section
variable {w3 wr w' : World} {F F' : Nat → Prop} {l : List (Nat × Fw)} {fv rv mv ov v v' : Value} {ps : List Nat} {xs : List Iw} {fm : List Nat} {os : List Ow} {i b B : Nat} {s s' : Fw} {e : TypeId} {sz n : Nat} {cs : List Value}
theorem RoG.below (h : RoG F B e sz wr v n cs) (hb : Below wr.heap.size wr w') : RoG F B e sz w' v n cs := ⟨own_belowB h.own hb, h.inF⟩
theorem RoG.keep {O : Nat → Prop} (h : RoG F B e sz wr v n cs) (h1 : ∀ g, F g → F' g) (hk : KpO O wr w') (hn : ∀ g, v.ownBlock = some g → ¬ O g) : RoG F' B e sz w' v n cs :=
  ⟨own_keep h.own (fun g e hlt => hk.block g hlt (hn g e)), fun g e => h1 g (h.inF g e)⟩
theorem OS.below (h : OS w3 wr F l fv rv mv ov ps xs fm os) (hb : Below wr.heap.size wr w') : OS w3 w' F l fv rv mv ov ps xs fm os :=
  ⟨h.fl.below hb, h.fr.below hb, h.it.below hb, fun x hx => ⟨(h.itI x hx).1.below hb, (h.itI x hx).2⟩, h.fm.below hb, h.fo.below hb⟩
/-- A call on one of the filters. -/
theorem OS.act {l' : List (Nat × Fw)} (h : OS w3 wr F l fv rv mv ov ps xs fm os) (hi : l[i]? = some (b, s)) (h1 : ∀ g, F g → F' g) (h2 : ∀ g, F' g → F g ∨ wr.heap.size ≤ g) (hL : FL w3 w' F' l') (hk : KpO (OwnF b s.mb) wr w') : OS w3 w' F' l' fv rv mv ov ps xs fm os := by
  have hA := h.fl.at_ i _ hi
  have hO : ∀ g, OwnF b s.mb g → F' g := fun g hg => h1 g (hA.ownF g hg)
  exact ⟨hL, h.fr.keep h1 hk (fun g e => hA.apart (by decide) h.fr.own e), h.it.keep h1 hk (fun g e => hA.apart (by decide) h.it.own e), fun x hx => ⟨((h.itI x hx).1.more h2).kpO hk hO, (h.itI x hx).2⟩, h.fm.keep h1 hk (fun g e => hA.apart (by decide) h.fm.own e), (h.fo.more h1 h2).kpO hk hO (fun g e => hA.apart (by decide) h.fo.own e)⟩
/-- New memory, and more of F's. -/
theorem OS.more {l' : List (Nat × Fw)} (h : OS w3 wr F l fv rv mv ov ps xs fm os) (h1 : ∀ g, F g → F' g) (h2 : ∀ g, F' g → F g ∨ wr.heap.size ≤ g) (hL : FL w3 w' F' l') (hb : Below wr.heap.size wr w') : OS w3 w' F' l' fv rv mv ov ps xs fm os :=
  ⟨hL, ⟨own_belowB h.fr.own hb, fun g e => h1 g (h.fr.inF g e)⟩, ⟨own_belowB h.it.own hb, fun g e => h1 g (h.it.inF g e)⟩, fun x hx => ⟨((h.itI x hx).1.more h2).below hb, (h.itI x hx).2⟩, ⟨own_belowB h.fm.own hb, fun g e => h1 g (h.fm.inF g e)⟩, (h.fo.more h1 h2).below hb⟩
theorem grow_sub (h : RoG F B e sz wr v n cs) {m : Nat} {cs' : List Value} (ho : w'.ownsRow B e sz v' m cs') (hv : v'.ownBlock = v.ownBlock ∨ ∀ k, v'.ownBlock = some k → wr.heap.size ≤ k) : ∀ g, v'.ownBlock = some g → g < w'.heap.size ∧ (F g ∨ wr.heap.size ≤ g) := fun g eg => ⟨(ho.lt g eg).2, by
  rcases hv with h2 | h2
  · exact .inl (h.inF g (h2 ▸ eg))
  · exact .inr (h2 g eg)⟩
theorem OS.pushFr (h : OS w3 wr F l fv rv mv ov ps xs fm os) (c : Nat) (ho : w'.ownsRow w3.heap.size 39 1 v' (ps.length + 1) (ps.map ptrC ++ [ptrC c])) (hg : wr.grownBy w' fv.ownBlock) (hv : v'.ownBlock = fv.ownBlock ∨ ∀ k, v'.ownBlock = some k → wr.heap.size ≤ k) : OS w3 w' (fun g => F g ∨ v'.ownBlock = some g) l v' rv mv ov (ps ++ [c]) xs fm os := by
  have hs := grow_sub h.fr ho hv
  have hk : KpO (fun g => fv.ownBlock = some g) wr w' := KpO.ofGrown hg (fun k e => e)
  have h2 : ∀ g, (F g ∨ v'.ownBlock = some g) → F g ∨ wr.heap.size ≤ g := fun g hx => hx.elim .inl (fun e => (hs g e).2)
  have hO : ∀ g, fv.ownBlock = some g → (F g ∨ v'.ownBlock = some g) := fun g e => .inl (h.fr.inF g e)
  exact ⟨h.fl.grown hg h.fr.inF (fun g e i p hp => (h.fl.at_ i p hp).apart (by decide) h.fr.own e) hs, ⟨by rw [List.length_append, List.map_append]; exact ho, fun g e => .inr e⟩, h.it.keep (fun g e => .inl e) hk (fun g e => own_ne h.it.own h.fr.own (by decide) e), fun x hx => ⟨((h.itI x hx).1.more h2).kpO hk hO, (h.itI x hx).2⟩, h.fm.keep (fun g e => .inl e) hk (fun g e => own_ne h.fm.own h.fr.own (by decide) e), (h.fo.more (fun g e => .inl e) h2).kpO hk hO (fun g e => own_ne h.fo.own h.fr.own (by decide) e)⟩
theorem OS.pushFm (h : OS w3 wr F l fv rv mv ov ps xs fm os) (c : Nat) (ho : w'.ownsRow w3.heap.size 3 1 v' (fm.length + 1) (fm.map intC ++ [intC c])) (hg : wr.grownBy w' mv.ownBlock) (hv : v'.ownBlock = mv.ownBlock ∨ ∀ k, v'.ownBlock = some k → wr.heap.size ≤ k) : OS w3 w' (fun g => F g ∨ v'.ownBlock = some g) l fv rv v' ov ps xs (fm ++ [c]) os := by
  have hs := grow_sub h.fm ho hv
  have hk : KpO (fun g => mv.ownBlock = some g) wr w' := KpO.ofGrown hg (fun k e => e)
  have h2 : ∀ g, (F g ∨ v'.ownBlock = some g) → F g ∨ wr.heap.size ≤ g := fun g hx => hx.elim .inl (fun e => (hs g e).2)
  have hO : ∀ g, mv.ownBlock = some g → (F g ∨ v'.ownBlock = some g) := fun g e => .inl (h.fm.inF g e)
  exact ⟨h.fl.grown hg h.fm.inF (fun g e i p hp => (h.fl.at_ i p hp).apart (by decide) h.fm.own e) hs, h.fr.keep (fun g e => .inl e) hk (fun g e => own_ne h.fr.own h.fm.own (by decide) e), h.it.keep (fun g e => .inl e) hk (fun g e => own_ne h.it.own h.fm.own (by decide) e), fun x hx => ⟨((h.itI x hx).1.more h2).kpO hk hO, (h.itI x hx).2⟩, ⟨by rw [List.length_append, List.map_append]; exact ho, fun g e => .inr e⟩, (h.fo.more (fun g e => .inl e) h2).kpO hk hO (fun g e => own_ne h.fo.own h.fm.own (by decide) e)⟩
theorem OS.pushIt (h : OS w3 wr F l fv rv mv ov ps xs fm os) (x : Iw) (hx : InF F wr x) (hxw : x.v.Wf) (ho : w'.ownsRow w3.heap.size 45 18 v' (xs.length + 1) (xs.flatMap iwC ++ iwC x)) (hg : wr.grownBy w' rv.ownBlock) (hv : v'.ownBlock = rv.ownBlock ∨ ∀ k, v'.ownBlock = some k → wr.heap.size ≤ k) : OS w3 w' (fun g => F g ∨ v'.ownBlock = some g) l fv v' mv ov ps (xs ++ [x]) fm os := by
  have hs := grow_sub h.it ho hv
  have hk : KpO (fun g => rv.ownBlock = some g) wr w' := KpO.ofGrown hg (fun k e => e)
  have h2 : ∀ g, (F g ∨ v'.ownBlock = some g) → F g ∨ wr.heap.size ≤ g := fun g hx => hx.elim .inl (fun e => (hs g e).2)
  have hO : ∀ g, rv.ownBlock = some g → (F g ∨ v'.ownBlock = some g) := fun g e => .inl (h.it.inF g e)
  refine ⟨h.fl.grown hg h.it.inF (fun g e i p hp => (h.fl.at_ i p hp).apart (by decide) h.it.own e) hs, h.fr.keep (fun g e => .inl e) hk (fun g e => own_ne h.fr.own h.it.own (by decide) e), ⟨by rw [List.length_append, List.flatMap_append]; simpa using ho, fun g e => .inr e⟩, fun y hy => ?_, h.fm.keep (fun g e => .inl e) hk (fun g e => own_ne h.fm.own h.it.own (by decide) e), (h.fo.more (fun g e => .inl e) h2).kpO hk hO (fun g e => own_ne h.fo.own h.it.own (by decide) e)⟩
  rcases List.mem_append.1 hy with hy | hy
  · exact ⟨((h.itI y hy).1.more h2).kpO hk hO, (h.itI y hy).2⟩
  · obtain rfl := List.mem_singleton.1 hy
    exact ⟨(hx.more h2).kpO hk hO, hxw⟩
theorem OS.pushFo (h : OS w3 wr F l fv rv mv ov ps xs fm os) (o : Ow) (hx : OwF F wr o) (ho : w'.ownsRow w3.heap.size 47 29 v' (os.length + 1) (os.flatMap owC ++ owC o)) (hg : wr.grownBy w' ov.ownBlock) (hv : v'.ownBlock = ov.ownBlock ∨ ∀ k, v'.ownBlock = some k → wr.heap.size ≤ k) : OS w3 w' (fun g => F g ∨ v'.ownBlock = some g) l fv rv mv v' ps xs fm (os ++ [o]) := by
  have hs := grow_sub (e := 47) ⟨h.fo.own, h.fo.inF⟩ ho hv
  have hk : KpO (fun g => ov.ownBlock = some g) wr w' := KpO.ofGrown hg (fun k e => e)
  have h2 : ∀ g, (F g ∨ v'.ownBlock = some g) → F g ∨ wr.heap.size ≤ g := fun g hx => hx.elim .inl (fun e => (hs g e).2)
  have hO : ∀ g, ov.ownBlock = some g → (F g ∨ v'.ownBlock = some g) := fun g e => .inl (h.fo.inF g e)
  refine ⟨h.fl.grown hg h.fo.inF (fun g e i p hp => (h.fl.at_ i p hp).apart (by decide) h.fo.own e) hs, h.fr.keep (fun g e => .inl e) hk (fun g e => own_ne h.fr.own h.fo.own (by decide) e), h.it.keep (fun g e => .inl e) hk (fun g e => own_ne h.it.own h.fo.own (by decide) e), fun x hx => ⟨((h.itI x hx).1.more h2).kpO hk hO, (h.itI x hx).2⟩, h.fm.keep (fun g e => .inl e) hk (fun g e => own_ne h.fm.own h.fo.own (by decide) e), ?_⟩
  have := h.fo.push (m := 1) (ps := [o]) (fun p hp => by obtain rfl := List.mem_singleton.1 hp; exact hx) (by simpa using ho) hg hv
  rw [List.length_append]
  exact this
theorem FL.deliverK {w0 w : World} (h : FL w0 w F l) (hi : l[i]? = some (b, s)) (p : Int) (x : Iw) (hx : RdV w x.pa x.pn x.pc x.v.rc.pend) (hxw : x.v.Wf) :
    Calls Tryd.prog 12 #[.pointer (some ⟨b, 0, none⟩), .int .i64 p, .agg (iwC x).toArray] w fun e w' => ∃ (s' : Fw) (a : Option Addr) (n c : Nat) (os : List Ow), e = .returned (.slice a n c) ∧ FL w0 w' F (l.set i (b, s')) ∧ s'.s = (delS s.s p x.v).1 ∧ RdO F w' a n c os ∧ os.map (·.v) = (delS s.s p x.v).2 ∧ KpO (OwnF b s.mb) w w' := by
  refine (deliver_any s b p x w h.tab h.fin (h.at_ i _ hi) hx hxw).mono ?_
  rintro e w' ⟨s', a, n, c, os, rfl, hA, hs, hm, hO, hv, hf, hk⟩
  exact ⟨s', a, n, c, os, rfl, h.step hi (fun _ hg => hg) (fun _ hg => .inl hg) (fun g hg => Nat.lt_of_lt_of_le (h.fin g hg) hk.size) hA hk (fun m e => .inl (hm ▸ e)), hs, hO, hv, hk⟩
theorem FL.regularK {w0 w : World} (h : FL w0 w F l) (hi : l[i]? = some (b, s)) (x : Iw) (ce : Nat) (cr : Int) (mem : Nat) (hmem : mem < 18446744073709551616) (hxw : x.v.view.Wf) :
    Calls Tryd.prog 10 #[.pointer (some ⟨b, 0, none⟩), .agg #[.int .u64 ce, .int .i64 cr], .int .u64 mem, .agg (iwA x)] w fun e w' => ∃ (s' : Fw) (F' : Nat → Prop) (a : Option Addr) (c : Nat) (o : Ow), e = .returned (.slice a 1 c) ∧ FL w0 w' F' (l.set i (b, s')) ∧ s'.s = regS s.s ce cr mem ∧ (∀ g, F g → F' g) ∧ (∀ g, F' g → F g ∨ w.heap.size ≤ g) ∧ RdO F' w' a 1 c [o] ∧ o.v = regO s.s x.v ∧ KpO (OwnF b s.mb) w w' := by
  refine (regular_any s b x ce cr mem hmem hxw w h.fin (h.at_ i _ hi)).mono ?_
  rintro e w' ⟨s', m, a, c, o, rfl, hA, hs, hm, hmb, hO, hv, hf, hk⟩
  have hk2 : KpO (OwnF b s.mb) w w' := hk.weak (fun g hg => hg.elim .inl (fun e => by cases e))
  have h2 : ∀ g, (F g ∨ g = m) → F g ∨ w.heap.size ≤ g := fun g hg => hg.elim .inl (fun e => .inr (by omega))
  refine ⟨s', fun g => F g ∨ g = m, a, c, o, rfl, h.step hi (fun _ hg => .inl hg) h2 (fun g hg => ?_) hA hk2 (fun m' e => .inr (by rw [hmb] at e; injection e with e; omega)), hs, fun _ hg => .inl hg, h2, hO, hv, hk2⟩
  rcases hg with hg | rfl
  · exact Nat.lt_of_lt_of_le (h.fin g hg) hk.size
  · exact (hA.map _ hmb).1.lt
theorem FL.closeK {w0 w : World} (h : FL w0 w F l) (hi : l[i]? = some (b, s)) :
    Calls Tryd.prog 11 #[.pointer (some ⟨b, 0, none⟩)] w fun e w' => e = .returned (.tuple #[]) ∧ FL w0 w' F (l.set i (b, { s with live := false })) ∧ KpO (OwnF b s.mb) w w' := by
  refine (closeA s b w (h.at_ i _ hi)).mono ?_
  rintro e w' ⟨rfl, hA, hk⟩
  have hk2 : KpO (OwnF b s.mb) w w' := KpO.ofKp hk (.inl rfl)
  exact ⟨rfl, h.step hi (fun _ hg => hg) (fun _ hg => .inl hg) (fun g hg => Nat.lt_of_lt_of_le (h.fin g hg) hk.size) hA hk2 (fun m e => .inl e), hk2⟩
end
end Go.Proofs.YteeeikkapnchlaaDoor
