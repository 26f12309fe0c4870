/- filter: several filters at once, that share no block -/
import Derived.Test.YteeeikkapnchlaaDoorFilJ
namespace Go.Proofs.YteeeikkapnchlaaDoor
set_option linter.unusedSimpArgs false
set_option linter.unusedVariables false
open Go.RowKit Go.Sort
theorem KpO.weak {O O' : Nat → Prop} {x y : World} (h : KpO O x y) (hO : ∀ g, O g → O' g) : KpO O' x y := ⟨h.os, h.tape, h.output, h.size, fun i hi hn => h.block i hi (fun ho => hn (hO i ho))⟩
/-- Filters, each with blocks of its own; F: these blocks, and more; w0: ahead of them. -/
structure FL (w0 w : World) (F : Nat → Prop) (l : List (Nat × Fw)) : Prop where
  at_ : ∀ (i : Nat) (p : Nat × Fw), l[i]? = some p → FAt F w p.1 p.2
  dis : ∀ (i j : Nat) (p q : Nat × Fw), l[i]? = some p → l[j]? = some q → i ≠ j → ∀ g, OwnF p.1 p.2.mb g → ¬ OwnF q.1 q.2.mb g
  fin : ∀ g, F g → g < w.heap.size
  new : ∀ g, F g → w0.heap.size ≤ g
  bel : Below w0.heap.size w0 w
  tab : Tab w
  pos : 0 < w0.heap.size
section
variable {w0 w w' : World} {F F' : Nat → Prop} {l : List (Nat × Fw)} {i b : Nat} {s s' : Fw}
theorem FL.below (h : FL w0 w F l) (hb : Below w.heap.size w w') : FL w0 w' F l :=
  ⟨fun i p hp => (h.at_ i p hp).below hb, h.dis, fun g hg => Nat.lt_of_lt_of_le (h.fin g hg) hb.size, h.new, belS h.bel hb, h.tab.below hb h.tab.1, h.pos⟩
theorem FL.start (hT : Tab w0) (hb : Below w0.heap.size w0 w) : FL w0 w (fun _ => False) [] :=
  ⟨fun i p hp => by simp at hp, fun i j p q hp => by simp at hp, fun g hg => hg.elim, fun g hg => hg.elim, hb, hT.below hb hT.1, hT.1⟩
theorem FAt.ownF (h : FAt F w b s) : ∀ g, OwnF b s.mb g → F g := fun g hg => by
  rcases hg with hg | hg
  · exact hg ▸ h.own
  · exact (h.map g hg).2
theorem FL.step (h : FL w0 w F l) (hi : l[i]? = some (b, s)) (h1 : ∀ g, F g → F' g) (h2 : ∀ g, F' g → F g ∨ w.heap.size ≤ g) (h3 : ∀ g, F' g → g < w'.heap.size) (hA : FAt F' w' b s') (hk : KpO (OwnF b s.mb) w w') (hm : ∀ m, s'.mb = some m → s.mb = some m ∨ w.heap.size ≤ m) : FL w0 w' F' (l.set i (b, s')) := by
  have hil : i < l.length := (List.getElem?_eq_some_iff.1 hi).1
  have hF := (h.at_ i _ hi).ownF
  have hset : ∀ (j : Nat) (p : Nat × Fw), (l.set i (b, s'))[j]? = some p → (j = i ∧ p = (b, s')) ∨ (j ≠ i ∧ l[j]? = some p) := fun j p hp => by
    by_cases he : j = i
    · subst he
      rw [List.getElem?_set_self hil] at hp
      exact .inl ⟨rfl, (Option.some.inj hp).symm⟩
    · rw [List.getElem?_set_ne (fun e => he e.symm)] at hp
      exact .inr ⟨he, hp⟩
  have hnewO : ∀ g, OwnF b s'.mb g → OwnF b s.mb g ∨ w.heap.size ≤ g := fun g hg => by
    rcases hg with hg | hg
    · exact .inl (.inl hg)
    · rcases hm g hg with hg | hg
      · exact .inl (.inr hg)
      · exact .inr hg
  refine ⟨fun j p hp => ?_, fun j k p q hp hq hjk g hg hg2 => ?_, h3, fun g hg => ?_, ?_, h.tab.kpO hk (fun ho => ?_), h.pos⟩
  · rcases hset j p hp with ⟨_, rfl⟩ | ⟨hne, hp⟩
    · exact hA
    · have hp' := h.at_ j p hp
      refine (hp'.more h2 h1).kpO hk (fun g hg => h1 g (hF g hg)) (fun ho => ?_) (fun m e ho => ?_)
      · exact h.dis i j _ p hi hp hne.symm _ ho (.inl rfl)
      · exact h.dis i j _ p hi hp hne.symm _ ho (.inr e)
  · rcases hset j p hp with ⟨rfl, rfl⟩ | ⟨hne, hp2⟩
    · rcases hset k q hq with ⟨rfl, rfl⟩ | ⟨hne2, hq⟩
      · exact hjk rfl
      · rcases hnewO g hg with hg | hg
        · exact h.dis j k _ q hi hq hjk g hg hg2
        · have := h.fin g ((h.at_ k q hq).ownF g hg2)
          omega
    · rcases hset k q hq with ⟨rfl, rfl⟩ | ⟨hne2, hq⟩
      · rcases hnewO g hg2 with hg2 | hg2
        · exact h.dis j k p _ hp2 hi hjk g hg hg2
        · have := h.fin g ((h.at_ j p hp2).ownF g hg)
          omega
      · exact h.dis j k p q hp2 hq hjk g hg hg2
  · rcases h2 g hg with hg | hg
    · exact h.new g hg
    · exact Nat.le_trans h.bel.size hg
  · exact KpO.below h.bel hk (fun g hg => h.new g (hF g hg)) h.bel.size
  · have := h.new 0 (hF 0 ho)
    have := h.pos
    omega
/-- One more, in new memory. -/
theorem FL.push (h : FL w0 w F l) (h1 : ∀ g, F g → F' g) (h2 : ∀ g, F' g → F g ∨ w.heap.size ≤ g) (h3 : ∀ g, F' g → g < w'.heap.size) (hA : FAt F' w' b s) (hn : ∀ g, OwnF b s.mb g → w.heap.size ≤ g) (hb : Below w.heap.size w w') : FL w0 w' F' (l ++ [(b, s)]) := by
  have hset : ∀ (j : Nat) (p : Nat × Fw), (l ++ [(b, s)])[j]? = some p → (j = l.length ∧ p = (b, s)) ∨ (j < l.length ∧ l[j]? = some p) := fun j p hp => by
    by_cases he : j < l.length
    · rw [List.getElem?_append_left he] at hp
      exact .inr ⟨he, hp⟩
    · rw [List.getElem?_append_right (by omega)] at hp
      by_cases he2 : j - l.length = 0
      · rw [he2] at hp
        exact .inl ⟨by omega, (Option.some.inj hp).symm⟩
      · rw [List.getElem?_eq_none (by simp; omega)] at hp
        cases hp
  refine ⟨fun j p hp => ?_, fun j k p q hp hq hjk g hg hg2 => ?_, h3, fun g hg => ?_, belS h.bel hb, h.tab.below hb h.tab.1, h.pos⟩
  · rcases hset j p hp with ⟨_, rfl⟩ | ⟨_, hp⟩
    · exact hA
    · exact ((h.at_ j p hp).more h2 h1).below hb
  · rcases hset j p hp with ⟨rfl, rfl⟩ | ⟨hlt, hp⟩
    · rcases hset k q hq with ⟨rfl, rfl⟩ | ⟨hlt2, hq⟩
      · exact hjk rfl
      · have := h.fin g ((h.at_ k q hq).ownF g hg2)
        have := hn g hg
        omega
    · rcases hset k q hq with ⟨rfl, rfl⟩ | ⟨hlt2, hq⟩
      · have := h.fin g ((h.at_ j p hp).ownF g hg)
        have := hn g hg2
        omega
      · exact h.dis j k p q hp hq hjk g hg hg2
  · rcases h2 g hg with hg | hg
    · exact h.new g hg
    · exact Nat.le_trans h.bel.size hg
theorem FL.deliver (h : FL w0 w F l) (hi : l[i]? = some (b, s)) (p : Int) (x : Iw) (hx : RdV w x.pa x.pn x.pc x.v.rc.pend) (hxw : x.v.Wf) :
    Calls Tryd.prog 12 #[.pointer (some ⟨b, 0, none⟩), .int .i64 p, .agg (iwA x)] w fun e w' => ∃ (s' : Fw) (a : Option Addr) (n c : Nat) (os : List Ow), e = .returned (.slice a n c) ∧ FL w0 w' F (l.set i (b, s')) ∧ s'.s = (delS s.s p x.v).1 ∧ RdO F w' a n c os ∧ os.map (·.v) = (delS s.s p x.v).2 ∧ (∀ g off, a = some ⟨g, off, none⟩ → w.heap.size ≤ g) ∧ KpO F w w' := by
  refine (deliver_any s b p x w h.tab h.fin (h.at_ i _ hi) hx hxw).mono ?_
  rintro e w' ⟨s', a, n, c, os, rfl, hA, hs, hm, hO, hv, hf, hk⟩
  exact ⟨s', a, n, c, os, rfl, h.step hi (fun _ hg => hg) (fun _ hg => .inl hg) (fun g hg => Nat.lt_of_lt_of_le (h.fin g hg) hk.size) hA hk (fun m e => .inl (hm ▸ e)), hs, hO, hv, hf, hk.weak (h.at_ i _ hi).ownF⟩
theorem FL.regular (h : FL w0 w F l) (hi : l[i]? = some (b, s)) (x : Iw) (ce : Nat) (cr : Int) (mem : Nat) (hmem : mem < 18446744073709551616) (hxw : x.v.view.Wf) :
    Calls Tryd.prog 10 #[.pointer (some ⟨b, 0, none⟩), .agg #[.int .u64 ce, .int .i64 cr], .int .u64 mem, .agg (iwA x)] w fun e w' => ∃ (s' : Fw) (F' : Nat → Prop) (a : Option Addr) (c : Nat) (o : Ow), e = .returned (.slice a 1 c) ∧ FL w0 w' F' (l.set i (b, s')) ∧ s'.s = regS s.s ce cr mem ∧ (∀ g, F g → F' g) ∧ (∀ g, F' g → F g ∨ w.heap.size ≤ g) ∧ RdO F' w' a 1 c [o] ∧ o.v = regO s.s x.v ∧ (∀ g off, a = some ⟨g, off, none⟩ → w.heap.size ≤ g) ∧ KpO F w w' := by
  refine (regular_any s b x ce cr mem hmem hxw w h.fin (h.at_ i _ hi)).mono ?_
  rintro e w' ⟨s', m, a, c, o, rfl, hA, hs, hm, hmb, hO, hv, hf, hk⟩
  have hk2 : KpO (OwnF b s.mb) w w' := hk.weak (fun g hg => hg.elim .inl (fun e => by cases e))
  have h2 : ∀ g, (F g ∨ g = m) → F g ∨ w.heap.size ≤ g := fun g hg => hg.elim .inl (fun e => .inr (by omega))
  refine ⟨s', fun g => F g ∨ g = m, a, c, o, rfl, h.step hi (fun _ hg => .inl hg) h2 (fun g hg => ?_) hA hk2 (fun m' e => .inr (by rw [hmb] at e; injection e with e; omega)), hs, fun _ hg => .inl hg, h2, hO, hv, hf, hk2.weak (h.at_ i _ hi).ownF⟩
  rcases hg with hg | rfl
  · exact Nat.lt_of_lt_of_le (h.fin g hg) hk.size
  · exact (hA.map _ hmb).1.lt
theorem FL.close (h : FL w0 w F l) (hi : l[i]? = some (b, s)) :
    Calls Tryd.prog 11 #[.pointer (some ⟨b, 0, none⟩)] w fun e w' => e = .returned (.tuple #[]) ∧ FL w0 w' F (l.set i (b, { s with live := false })) ∧ KpO F w w' := by
  refine (closeA s b w (h.at_ i _ hi)).mono ?_
  rintro e w' ⟨rfl, hA, hk⟩
  have hk2 : KpO (OwnF b s.mb) w w' := KpO.ofKp hk (.inl rfl)
  exact ⟨rfl, h.step hi (fun _ hg => hg) (fun _ hg => .inl hg) (fun g hg => Nat.lt_of_lt_of_le (h.fin g hg) hk.size) hA hk2 (fun m e => .inl e), hk2.weak (h.at_ i _ hi).ownF⟩
theorem FL.fresh (h : FL w0 w F l) (rc : Rc) (pa : Option Addr) (pn pc : Nat) (hwf : rc.Wf) (hn : rc.pend.length ≤ 1000) (hr : RdV w pa pn pc rc.pend) :
    Calls Tryd.prog 9 #[.agg #[.int .u64 rc.last.num, .int .u64 rc.last.ce, .int .i64 rc.last.cr, .int .u64 rc.last.mem, .slice pa pn pc]] w fun e w' => ∃ (b : Nat) (s' : Fw) (F' : Nat → Prop), e = .returned (.pointer (some ⟨b, 0, none⟩)) ∧ FL w0 w' F' (l ++ [(b, s')]) ∧ s'.s = ⟨rc, 0, 0, 0, false, false, [], none, 0⟩ ∧ (∀ g, F g → F' g) ∧ (∀ g, F' g → F g ∨ w.heap.size ≤ g) ∧ Below w.heap.size w w' := by
  refine (fnew_any F rc pa pn pc hwf hn w h.fin hr).mono ?_
  rintro e w' ⟨b, a, c, rfl, hA, hb, hbe⟩
  have h2 : ∀ g, (F g ∨ g = b) → F g ∨ w.heap.size ≤ g := fun g hg => hg.elim .inl (fun e => .inr (by omega))
  refine ⟨b, newW rc a pn c, fun g => F g ∨ g = b, rfl, h.push (fun _ hg => .inl hg) h2 (fun g hg => ?_) hA (fun g hg => ?_) hbe, rfl, fun _ hg => .inl hg, h2, hbe⟩
  · rcases hg with hg | rfl
    · exact Nat.lt_of_lt_of_le (h.fin g hg) hbe.size
    · exact hA.blk.lt
  · rcases hg with rfl | hg
    · exact hb
    · cases hg
theorem FL.copy (h : FL w0 w F l) (hi : l[i]? = some (b, s)) :
    Calls Tryd.prog 21 #[.pointer (some ⟨b, 0, none⟩)] w fun e w' => ∃ (c : Nat) (s' : Fw) (F' : Nat → Prop), e = .returned (.pointer (some ⟨c, 0, none⟩)) ∧ FL w0 w' F' (l ++ [(c, s')]) ∧ s'.s = s.s ∧ (∀ g, F g → F' g) ∧ (∀ g, F' g → F g ∨ w.heap.size ≤ g) ∧ Below w.heap.size w w' := by
  refine (copy_any s b w h.fin (h.at_ i _ hi)).mono ?_
  rintro e w' ⟨c, s', rfl, hA, hs, hc, hm, hbe⟩
  have hn : ∀ g, OwnF c s'.mb g → w.heap.size ≤ g := fun g hg => by
    rcases hg with rfl | hg
    · exact hc
    · exact (hm g hg).1
  refine ⟨c, s', fun g => F g ∨ OwnF c s'.mb g, rfl, h.push (fun _ hg => .inl hg) (fun g hg => hg.elim .inl (fun e => .inr (hn g e))) (fun g hg => ?_) hA hn hbe, hs, fun _ hg => .inl hg, fun g hg => hg.elim .inl (fun e => .inr (hn g e)), hbe⟩
  rcases hg with hg | hg | hg
  · exact Nat.lt_of_lt_of_le (h.fin g hg) hbe.size
  · exact hg ▸ hA.blk.lt
  · exact (hA.map g hg).1.lt
end
end Go.Proofs.YteeeikkapnchlaaDoor
