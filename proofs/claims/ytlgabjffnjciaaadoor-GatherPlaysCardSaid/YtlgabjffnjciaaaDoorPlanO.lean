/- plan: readings of exchanges and messages -/
import Derived.Test.YtlgabjffnjciaaaDoorPlanB
import Derived.Test.YtlgabjffnjciaaaDoorSz
namespace Go.Proofs.YtlgabjffnjciaaaDoor
set_option linter.unusedSimpArgs false
set_option linter.unusedVariables false
open Go.RowKit
def RConf : World → List Value → Int × Int → Prop := RPair (RInt .u64) (RInt .i64)
def RExc : World → List Value → Int × (Int × Int) × List Int × (Int × Int) → Prop := RPair (RInt .i64) (RPair RConf (RPair (RSlz (RInt .u32) 1 4) RConf))
def RMsg : World → List Value → Int × Int × Int × Int × List Int × ByteArray → Prop := RPair (RInt .i64) (RPair (RInt .u32) (RPair (RInt .u64) (RPair (RInt .i64) (RPair (RSlz (RInt .u32) 1 4) RStr))))
section
variable {H : Type} {enc : TypeId × Value → H} {W : World}
theorem opens_conf : Opens enc Tryd.prog W 24 RConf := opens_struct Tryd.underlying24 (by kernel_rfl) (OpensFs.cons (sz := 1) (total := 1) rfl (by kernel_rfl) (opens_int Tryd.underlying22) (OpensFs.one rfl (by kernel_rfl) (opens_int Tryd.underlying3)))
theorem opens_key : Opens enc Tryd.prog W 41 RConf := opens_struct Tryd.underlying41 (by kernel_rfl) (OpensFs.cons (sz := 1) (total := 1) rfl (by kernel_rfl) (opens_int Tryd.underlying22) (OpensFs.one rfl (by kernel_rfl) (opens_int Tryd.underlying3)))
theorem sopens_u32s : SOpens enc Tryd.prog W 39 (RSlz (RInt .u32) 1 4) := sopens_slice Tryd.underlying39 (by kernel_rfl) (by kernel_rfl) (by decide) (SOpens.of (opens_int Tryd.underlying61))
theorem sopens_exc : SOpens enc Tryd.prog W 43 RExc :=
  sopens_struct Tryd.underlying43 (by kernel_rfl) (SOpensFs.cons (sz := 1) (total := 5) rfl (by kernel_rfl) (SOpens.of (opens_int Tryd.underlying3)) (SOpensFs.cons (sz := 2) (total := 3) rfl (by kernel_rfl) (SOpens.of opens_conf) (SOpensFs.cons (sz := 1) (total := 2) rfl (by kernel_rfl) sopens_u32s (SOpensFs.one rfl (by kernel_rfl) (SOpens.of opens_key)))))
theorem sopens_excs : SOpens enc Tryd.prog W 38 (RSlz RExc 6 64) := sopens_slice Tryd.underlying38 (by kernel_rfl) (by kernel_rfl) (by decide) sopens_exc
end
theorem wf_u32_bounds {x : Int} (h : (Lit.int .u32 x).wf = true) : 0 ≤ x ∧ x < 4294967296 := by
  simp [Lit.wf, IntKind.min, IntKind.max, IntKind.bits, IntKind.signed] at h
  omega
/-- Counts. -/
theorem RSlz.u32 {w : World} {cs : List Value} {l : List Int} (h : RSlz (RInt .u32) 1 4 w cs l) : ∃ a n c, cs = [.slice a n c] ∧ RdU w a n c (l.map Int.toNat) ∧ n * 4 ≤ 140737488355328 ∧ ∀ y ∈ l.map Int.toNat, y < 4294967296 := by
  obtain ⟨a, n, c, rfl, h1, h2⟩ := h
  have hwf := h1.intsWf
  refine ⟨a, n, c, rfl, ?_, by unfold reachBytes at h2; omega, fun y hy => ?_⟩
  · have := h1.ints
    unfold RdU u32s
    rw [List.map_map]
    have e : l.map (Value.int .u32) = l.map ((fun (n : Nat) => Value.int .u32 n) ∘ Int.toNat) := List.map_congr_left (fun x hx => by
      have := wf_u32_bounds (hwf x hx)
      show Value.int .u32 x = Value.int .u32 ((x.toNat : Nat) : Int)
      rw [Int.toNat_of_nonneg this.1])
    rw [← e]; exact this
  · obtain ⟨x, hx, rfl⟩ := List.mem_map.1 hy
    have := wf_u32_bounds (hwf x hx)
    omega
def ExOk (w : World) (x : Xc) : Prop := RdU w x.pa x.pn x.pc x.v.cnt ∧ x.pn * 4 ≤ 140737488355328 ∧ ∀ y ∈ x.v.cnt, y < 4294967296
def MsOk (w : World) (x : Mc) : Prop := RdU w x.pa x.pn x.pc x.m.deps ∧ x.pn * 4 ≤ 140737488355328 ∧ (∀ y ∈ x.m.deps, y < 4294967296) ∧ x.m.payload.size ≤ 9223372036854775807 ∧ x.m.seq < 4294967296
theorem RExc.xc {w : World} {cs : List Value} {v : Int × (Int × Int) × List Int × (Int × Int)} (h : RExc w cs v) : ∃ x : Xc, cs = xcC x ∧ ExOk w x := by
  obtain ⟨c1, c2, rfl, ⟨rfl, f1⟩, c3, c4, rfl, ⟨c5, c6, rfl, ⟨rfl, f2⟩, rfl, f3⟩, c7, c8, rfl, h4, c9, c10, rfl, ⟨rfl, f5⟩, rfl, f6⟩ := h
  obtain ⟨a, n, c, rfl, h5, h6, h7⟩ := h4.u32
  exact ⟨⟨⟨v.1, v.2.1.1, v.2.1.2, v.2.2.1.map Int.toNat, v.2.2.2.1, v.2.2.2.2⟩, a, n, c⟩, rfl, h5, h6, h7⟩
theorem RMsg.mc {w : World} {cs : List Value} {v : Int × Int × Int × Int × List Int × ByteArray} (h : RMsg w cs v) : ∃ x : Mc, cs = mcC x ∧ MsOk w x := by
  obtain ⟨c1, c2, rfl, ⟨rfl, f1⟩, c3, c4, rfl, ⟨rfl, f2⟩, c5, c6, rfl, ⟨rfl, f3⟩, c7, c8, rfl, ⟨rfl, f4⟩, c9, c10, rfl, h5, rfl, f6⟩ := h
  obtain ⟨a, n, c, rfl, h6, h7, h8⟩ := h5.u32
  have g2 := wf_u32_bounds f2
  have g3 := wf_u64_bounds f3
  refine ⟨⟨⟨v.1, v.2.1.toNat, v.2.2.1.toNat, v.2.2.2.1, v.2.2.2.2.1.map Int.toNat, v.2.2.2.2.2⟩, a, n, c⟩, ?_, h6, h7, h8, ?_, ?_⟩
  · simp only [mcC]
    rw [Int.toNat_of_nonneg g2.1, Int.toNat_of_nonneg g3.1]
    rfl
  · show v.2.2.2.2.2.size ≤ _
    unfold maxLen at f6
    exact Nat.le_trans f6 (by decide)
  · show v.2.1.toNat < _
    omega
/-- A row of pieces, each read as something. -/
theorem RSl.pick {α β : Type} {R : World → List Value → α → Prop} {sz : Nat} {w : World} {a : Option Addr} {n c : Nat} {l : List α} (f : β → List Value) (hf : ∀ y, (f y).length = sz) (Q : β → Prop) (hR : ∀ cs x, R w cs x → ∃ y : β, cs = f y ∧ Q y) (hsz : 0 < sz) (h : RSl R sz w a n c l) :
    ∃ l' : List β, Rd w sz a n c (l'.flatMap f) ∧ (∀ y ∈ l', Q y) ∧ l'.length = n := by
  obtain ⟨⟨h1, h2, h3, h4⟩, h5⟩ := h
  rcases h5 with h5 | ⟨b, off, rfl, hb, hc⟩
  · subst h5
    exact ⟨[], ⟨⟨by simp, h2, h3, h4⟩, .inl rfl⟩, (fun y hy => by cases hy), rfl⟩
  · have hv : ∀ i (hi : i < l.length), ∃ y : β, (∀ j u, (f y)[j]? = some u → w.cell? ⟨b, off + i * sz + j, none⟩ = some u) ∧ Q y := fun i hi => by
      obtain ⟨cs, _, h6, h7⟩ := hc i hi
      obtain ⟨y, rfl, hy⟩ := hR _ _ h7
      exact ⟨y, h6, hy⟩
    let g : (i : Nat) → i < l.length → β := fun i hi => Classical.choose (hv i hi)
    have hg : ∀ i hi, (∀ j u, (f (g i hi))[j]? = some u → w.cell? ⟨b, off + i * sz + j, none⟩ = some u) ∧ Q (g i hi) := fun i hi => Classical.choose_spec (hv i hi)
    refine ⟨List.ofFn (fun i : Fin l.length => g i.1 i.2), ⟨⟨?_, h2, h3, h4⟩, .inr ⟨b, off, rfl, hb, fun j u hu => ?_⟩⟩, fun y hy => ?_, by simp [h1]⟩
    · rw [flatMap_len hf, List.length_ofFn, h1]
    · have hj : j = j / sz * sz + j % sz := by rw [Nat.mul_comm]; exact (Nat.div_add_mod j sz).symm
      have hlt := (List.getElem?_eq_some_iff.1 hu).1
      rw [flatMap_len hf, List.length_ofFn] at hlt
      have hq : j / sz < l.length := Nat.div_lt_of_lt_mul (by rw [Nat.mul_comm]; exact hlt)
      have hj' := hj
      rw [hj, flatMap_get hf _ _ _ (Nat.mod_lt _ hsz), List.getElem?_eq_getElem (by simpa using hq)] at hu
      simp only [List.getElem_ofFn, Option.bind_some] at hu
      have := (hg (j / sz) hq).1 _ _ hu
      rw [Nat.add_assoc, ← hj'] at this
      exact this
    · obtain ⟨i, hi, rfl⟩ := List.mem_iff_getElem.1 hy
      rw [List.getElem_ofFn]
      exact (hg i (by simpa using hi)).2
/-- What an argument reads as. -/
theorem RSl.excs {w : World} {a : Option Addr} {n c : Nat} {l : List (Int × (Int × Int) × List Int × (Int × Int))} (h : RSl RExc 6 w a n c l) : ∃ l' : List Xc, RdX w a n c l' ∧ ∀ x ∈ l', ExOk w x := by
  obtain ⟨l', h1, h2, _⟩ := h.pick xcC xcC_len (ExOk w) (fun cs x hx => hx.xc) (by decide)
  exact ⟨l', ⟨h1, fun x hx => (h2 x hx).1⟩, h2⟩
theorem RSl.msgs {w : World} {a : Option Addr} {n c : Nat} {l : List (Int × Int × Int × Int × List Int × ByteArray)} (h : RSl RMsg 6 w a n c l) : ∃ l' : List Mc, RdM w a n c l' ∧ ∀ x ∈ l', MsOk w x := by
  obtain ⟨l', h1, h2, _⟩ := h.pick mcC mcC_len (MsOk w) (fun cs x hx => hx.mc) (by decide)
  exact ⟨l', ⟨h1, fun x hx => (h2 x hx).1⟩, h2⟩
end Go.Proofs.YtlgabjffnjciaaaDoor
