/- text: a row of events as an argument -/
import Derived.Test.YtpkknhhohbobaaaDoorTxtFb
namespace Go.Proofs.YtpkknhhohbobaaaDoor
set_option linter.unusedSimpArgs false
set_option linter.unusedVariables false
open Go.RowKit
theorem RSl.turn {α β : Type} {R : World → List Value → α → Prop} {S : World → List Value → β → Prop} {sz : Nat} {w : World} {a : Option Addr} {n c : Nat} {l : List α} (h : RSl R sz w a n c l) (hRS : ∀ cs x, R w cs x → ∃ y, S w cs y) : ∃ k, RSl S sz w a n c k := by
  obtain ⟨⟨h1, h2, h3, h4⟩, h5⟩ := h
  rcases h5 with h5 | ⟨b, off, rfl, hb, hc⟩
  · exact ⟨[], ⟨h5.symm, h2, h3, h4⟩, .inl h5⟩
  · have hv : ∀ i (hi : i < l.length), ∃ y : β, ∃ cs, cs.length = sz ∧ (∀ j u, cs[j]? = some u → w.cell? ⟨b, off + i * sz + j, none⟩ = some u) ∧ S w cs y := fun i hi => by
      obtain ⟨cs, g1, g2, g3⟩ := hc i hi
      obtain ⟨y, hy⟩ := hRS _ _ g3
      exact ⟨y, cs, g1, g2, hy⟩
    let f : (i : Nat) → i < l.length → β := fun i hi => Classical.choose (hv i hi)
    have hf : ∀ i hi, ∃ cs, cs.length = sz ∧ (∀ j u, cs[j]? = some u → w.cell? ⟨b, off + i * sz + j, none⟩ = some u) ∧ S w cs (f i hi) := fun i hi => Classical.choose_spec (hv i hi)
    refine ⟨List.ofFn (fun i : Fin l.length => f i.1 i.2), ⟨by simp [h1], h2, h3, h4⟩, .inr ⟨b, off, rfl, hb, fun i hi => ?_⟩⟩
    obtain ⟨cs, g1, g2, g3⟩ := hf i (by simpa using hi)
    exact ⟨cs, g1, g2, by simpa using g3⟩
theorem REv.ers {w : World} {a : Option Addr} {n c : Nat} {l} (h : RSl REv 19 w a n c l) : ∃ k : List Er, Rd w 19 a n c (k.flatMap erC) ∧ ∀ e ∈ k, EvR w e.x e.da e.dn e.dc e.na e.nn e.nc := by
  obtain ⟨k, hk⟩ := RSl.turn (S := fun w cs (e : Er) => cs = erC e ∧ EvR w e.x e.da e.dn e.dc e.na e.nn e.nc) h (fun cs x hx => REv.er hx)
  exact ⟨k, hk.flat erC erC_len (by decide) (fun _ _ _ hx => hx.1), hk.all (Q := fun e => EvR w e.x e.da e.dn e.dc e.na e.nn e.nc) (fun _ _ hx => hx.2)⟩
end Go.Proofs.YtpkknhhohbobaaaDoor
