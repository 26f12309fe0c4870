/- gather: what GatherOnce keeps; two rows of one exchange each -/
import Derived.Test.YtlgabjffnjciaaaDoorGatV
namespace Go.Proofs.YtlgabjffnjciaaaDoor
set_option linter.unusedSimpArgs false
set_option linter.unusedVariables false
open Go.RowKit Go.Sort
theorem RdX.part {w : World} {b off n c : Nat} {l : List Xc} (h : RdX w (some ⟨b, off, none⟩) n c l) {k : Nat} (hk : k < l.length) : RdX w (some ⟨b, off + k * 6, none⟩) 1 (c - k) [l[k]] := by
  have hl := h.len
  have h1 := Rd.part h.row k 1 (by omega)
  refine ⟨?_, fun x hx => ?_⟩
  · have e : ((l.flatMap xcC).drop (k * 6)).take (1 * 6) = xcC l[k] := by
      refine List.ext_getElem? (fun j => ?_)
      rw [List.getElem?_take, List.getElem?_drop]
      by_cases hj : j < 6
      · rw [if_pos (by omega), flatMap_get xcC_len _ _ _ hj, List.getElem?_eq_getElem hk]
        rfl
      · rw [if_neg (by omega), List.getElem?_eq_none]
        rw [xcC_len]; omega
    rw [e] at h1
    simpa using h1
  · obtain rfl := List.mem_singleton.1 hx
    exact h.inn _ (List.getElem_mem hk)
theorem rexs_one (b off c b2 off2 c2 : Nat) (x y : Xc) (he : x.v.who = y.v.who → x.v = y.v) (w : World) (h1 : RdX w (some ⟨b, off, none⟩) 1 c [x]) (h2 : RdX w (some ⟨b2, off2, none⟩) 1 c2 [y]) :
    Calls Tryd.prog 23 #[.slice (some ⟨b, off, none⟩) 1 c, .slice (some ⟨b2, off2, none⟩) 1 c2] w fun e w' => e = .returned (.bool (decide (x.v.who = y.v.who))) ∧ Below w.heap.size w w' := by
  by_cases h : x.v.who = y.v.who
  · rw [decide_eq_true h]
    exact rexs_eq _ _ _ [x] _ _ _ [y] (by simp [vX, he h]) w h1 h2
  · rw [decide_eq_false h]
    exact rexs_who b off c b2 off2 c2 x y h w h1 h2
def Fb (v : Value) (g : Nat) : Prop := v.ownBlock = some g
structure OnceE (w0 wr : World) (b mb : Nat) (v : AtV) (fa : Option Addr) (m fc : Nat) (fs : List Xc) (members told done : Nat) : Prop where
  gat : GatC (Fb (.slice fa m fc)) wr b mb v
  inv : VInv v
  once : OnceI v told done
  mem : v.mem = members
  own : wr.ownsRow w0.heap.size 43 6 (.slice fa m fc) m (fs.flatMap xcC)
  inn : ∀ x ∈ fs, RdU w0 x.pa x.pn x.pc x.v.cnt
  offb : ¬ Fb (.slice fa m fc) b
  offm : ¬ Fb (.slice fa m fc) mb
  newb : w0.heap.size ≤ b
  newm : w0.heap.size ≤ mb
  bel : Below w0.heap.size w0 wr
section
variable {w0 wr w' : World} {b mb m fc members told done : Nat} {v : AtV} {fa : Option Addr} {fs : List Xc}
theorem OnceE.len (h : OnceE w0 wr b mb v fa m fc fs members told done) : fs.length = m := by
  have := h.own.1
  rw [flatMap_len xcC_len] at this
  omega
theorem OnceE.rd (h : OnceE w0 wr b mb v fa m fc fs members told done) : RdX wr fa m fc fs := by
  obtain ⟨_, _, e, hr⟩ := Rd.own h.own
  injection e with e1 _ e3
  subst e1 e3
  exact ⟨hr, fun x hx => (h.inn x hx).below h.bel⟩
theorem OnceE.fresh (h : OnceE w0 wr b mb v fa m fc fs members told done) (g : Nat) (hg : Fb (.slice fa m fc) g) : g < wr.heap.size := (h.own.lt g hg).2
theorem OnceE.below (h : OnceE w0 wr b mb v fa m fc fs members told done) (hb : Below wr.heap.size wr w') : OnceE w0 w' b mb v fa m fc fs members told done :=
  ⟨h.gat.below hb, h.inv, h.once, h.mem, own_belowB h.own hb, h.inn, h.offb, h.offm, h.newb, h.newm, belS h.bel hb⟩
/-- The attempt goes on. -/
theorem OnceE.step (h : OnceE w0 wr b mb v fa m fc fs members told done) {v' : AtV} {told' done' : Nat} (hG : GatC (Fb (.slice fa m fc)) w' b mb v') (hk : KpO (Own2 b mb) wr w') (hV : VInv v') (hO : OnceI v' told' done') (hm : v'.mem = members) : OnceE w0 w' b mb v' fa m fc fs members told' done' :=
  ⟨hG, hV, hO, hm, own_keep h.own (fun g hg hlt => hk.block g hlt (fun ho => by
    rcases ho with rfl | rfl
    · exact h.offb hg
    · exact h.offm hg)), h.inn, h.offb, h.offm, h.newb, h.newm, KpO.fresh h.bel hk h.newb h.newm h.bel.size⟩
/-- The list grows. -/
theorem OnceE.push (h : OnceE w0 wr b mb v fa m fc fs members told done) {x : Xc} {fa' : Option Addr} {fc' : Nat} (hx : RdU w0 x.pa x.pn x.pc x.v.cnt)
    (ho : w'.ownsRow w0.heap.size 43 6 (.slice fa' (m + 1) fc') (m + 1) (fs.flatMap xcC ++ xcC x)) (hg : wr.grownBy w' (Value.slice fa m fc).ownBlock)
    (hv : (Value.slice fa' (m + 1) fc').ownBlock = (Value.slice fa m fc).ownBlock ∨ ∀ k, (Value.slice fa' (m + 1) fc').ownBlock = some k → wr.heap.size ≤ k) : OnceE w0 w' b mb v fa' (m + 1) fc' (fs ++ [x]) members told done := by
  have hk : KpO (Fb (.slice fa m fc)) wr w' := KpO.ofGrown hg (fun k hk => hk)
  have hG := h.gat.kpO hk h.offb h.offm
  obtain ⟨hlb, hlm⟩ := h.gat.gat.lt
  have hoff : ∀ g, Fb (.slice fa' (m + 1) fc') g → Fb (.slice fa m fc) g ∨ wr.heap.size ≤ g := fun g hg => by
    rcases hv with hv | hv
    · exact .inl (hv.symm.trans hg)
    · exact .inr (hv g hg)
  refine ⟨?_, h.inv, h.once, h.mem, by rw [List.flatMap_append]; simpa using ho, fun y hy => ?_, fun hb => ?_, fun hb => ?_, h.newb, h.newm, h.bel.grown hg h.bel.size (fun k hk => (h.own.lt k hk).1)⟩
  · obtain ⟨s, g1, g2, g3⟩ := h.gat
    refine ⟨s, g1.kpO hk h.offb h.offm g3, g2, fun y hy g off e hn hf => ?_⟩
    rcases hoff g hf with hf | hf
    · exact g3 y hy g off e hn hf
    · have hin := g1.inn y hy
      rcases hin.2 with h2 | ⟨g', off', e', hlt, _⟩
      · exact absurd h2 hn
      · rw [e] at e'
        injection e' with e'
        injection e' with e'
        omega
  · rcases List.mem_append.1 hy with hy | hy
    · exact h.inn y hy
    · obtain rfl := List.mem_singleton.1 hy; exact hx
  · rcases hoff _ hb with hf | hf
    · exact h.offb hf
    · omega
  · rcases hoff _ hb with hf | hf
    · exact h.offm hf
    · omega
end
def OnceP (w0 : World) (b mb members i : Nat) (t d f r : Value) (wx : World) : Prop := ∃ (v : AtV) (tN dN m : Nat) (fa : Option Addr) (fc : Nat) (fs : List Xc), t = .int .i64 tN ∧ d = .int .i64 dN ∧ f = .slice fa m fc ∧ r = .int .u64 v.rdy ∧ m ≤ i ∧ Hid (OnceE w0 wx b mb v fa m fc fs members tN dN) ∧ Hid (vX fs = v.xs)
end Go.Proofs.YtlgabjffnjciaaaDoor
