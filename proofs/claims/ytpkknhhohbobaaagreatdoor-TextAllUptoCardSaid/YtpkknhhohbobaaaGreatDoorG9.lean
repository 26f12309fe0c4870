/- typed readings that carry the form's reach: each slice and string that is read takes at most 'reachBytes' bytes; typed readings of at most so many values and letters -/
import Derived.Test.YtpkknhhohbobaaaGreatDoorLib
import Derived.SizedLaws
import Derived.Test.YtpkknhhohbobaaaGreatDoorRows
namespace Go.Proofs.YtpkknhhohbobaaaGreatDoor
set_option linter.unusedSimpArgs false
set_option linter.unusedVariables false
open Go.RowKit

/-- What is read of a type's cells, and is of the reach, bears out 'R'. -/
def SOpens {H : Type} (enc : TypeId × Value → H) (P : Program) (w : World) (t : TypeId) {α : Type} (R : World → List Value → α → Prop) : Prop :=
  ∀ (spare : Nat → Bool) fuel cs x, DataW.trod enc P w 0 spare true fuel t cs = some x → (∀ n ∈ x.1.weights P t, n ≤ reachBytes) → ∃ v : α, R w cs v
section
variable {H : Type} {enc : TypeId × Value → H} {P : Program} {w : World}
theorem SOpens.of {t : TypeId} {α : Type} {R : World → List Value → α → Prop} (h : Opens enc P w t R) : SOpens enc P w t R := fun spare fuel cs x hx _ => h spare fuel cs x hx
theorem weightsAll_mem {e : TypeId} {d : DataW H} {ds : List (DataW H)} (hd : d ∈ ds) : ∀ n ∈ d.weights P e, n ∈ DataW.weightsAll P e ds := by
  induction ds with
  | nil => cases hd
  | cons x ds ih =>
    intro n hn
    rw [DataW.weightsAll, List.mem_append]
    rcases List.mem_cons.1 hd with rfl | hd
    · exact .inl hn
    · exact .inr (ih hd n hn)
/-- A slice of the reach. -/
def RSlz {α : Type} (R : World → List Value → α → Prop) (sz bytes : Nat) : World → List Value → List α → Prop := fun w cs l => ∃ a n c, cs = [.slice a n c] ∧ RSl R sz w a n c l ∧ n * bytes ≤ reachBytes
theorem sopens_slice {t e : TypeId} {sz bytes : Nat} {α : Type} {R : World → List Value → α → Prop} (ht : P.underlying t = some (.slice e)) (hsz : P.cellsOf e = sz) (hby : P.bytesOf e = bytes) (hpos : 0 < sz) (hR : SOpens enc P w e R) : SOpens enc P w t (RSlz R sz bytes) := by
  intro spare fuel cs x h hw
  rcases Deep.open_slice ht h with ⟨rfl, _⟩ | ⟨a, len, cap, m, n, D, Pl, rfl, hb, hl, hm, hmm, hxx, hx⟩
  · exact ⟨[], none, 0, 0, rfl, ⟨⟨rfl, Nat.le_refl _, Nat.zero_le _, fun _ => ⟨rfl, rfl⟩⟩, .inl rfl⟩, by simp⟩
  · have hle : len ≤ m := by subst hmm; split <;> omega
    rw [hxx] at hw
    simp only [DataW.weights, ht] at hw
    have hlen : len * bytes ≤ reachBytes := by
      have := hw _ (List.mem_cons_self ..)
      rw [hby] at this
      refine Nat.le_trans (Nat.mul_le_mul_right _ ?_) this
      simp
    have hv : ∀ i, i < len → ∃ v : α, ∃ cs', w.cells? 0 (a.add (i * P.cellsOf e)) (P.cellsOf e) = some cs' ∧ R w cs' v := fun i hi => by
      obtain ⟨cs', h1, h2⟩ := hx i (by omega)
      obtain ⟨v, hv⟩ := hR spare n cs' _ h2 (fun k hk => hw k (List.mem_cons_of_mem _ (List.mem_append.2 (.inl (weightsAll_mem (List.mem_map.2 ⟨i, List.mem_range.2 hi, rfl⟩) k hk)))))
      exact ⟨v, cs', h1, hv⟩
    by_cases h0 : len = 0
    · subst h0
      exact ⟨[], _, 0, cap, rfl, ⟨⟨rfl, Nat.zero_le _, hm, fun h => by cases h⟩, .inl rfl⟩, hlen⟩
    · obtain ⟨v0, cs0, hc0, _⟩ := hv 0 (by omega)
      have hlt := World.cells?_block hc0 (by omega)
      have hsp := (World.cells?_some hc0).2
      have hspot : a.spot = none := by
        obtain ⟨c0, hc⟩ : ∃ c0, cs0[0]? = some c0 := by
          rw [List.getElem?_eq_getElem (by rw [hsp.1]; omega)]; exact ⟨_, rfl⟩
        have := hsp.2 0 (by omega)
        rw [hc] at this
        have := World.cell?_spot this
        simpa [Addr.add] using this
      obtain ⟨b, off, spot⟩ := a
      simp only at hspot
      subst hspot
      let f : (i : Nat) → i < len → α := fun i hi => Classical.choose (hv i hi)
      have hf : ∀ i hi, ∃ cs', w.cells? 0 ((⟨b, off, none⟩ : Addr).add (i * P.cellsOf e)) (P.cellsOf e) = some cs' ∧ R w cs' (f i hi) := fun i hi => Classical.choose_spec (hv i hi)
      refine ⟨List.ofFn (fun i : Fin len => f i.1 i.2), _, len, cap, rfl, ⟨⟨by simp, hl, hm, fun h => by cases h⟩, .inr ⟨b, off, rfl, by simpa [add_zero_off] using hlt, fun i hi => ?_⟩⟩, hlen⟩
      obtain ⟨cs', h1, h2⟩ := hf i (by simpa using hi)
      obtain ⟨_, h3, h4⟩ := World.cells?_some h1
      refine ⟨cs', by rw [h3, hsz], fun j u hu => ?_, by simpa using h2⟩
      have hj : j < cs'.length := (List.getElem?_eq_some_iff.1 hu).1
      have := h4 j (by omega)
      rw [hu, add_zero_off, add_zero_off, hsz] at this
      exact this
/-- Fields, one behind the other. -/
def SOpensFs {H : Type} (enc : TypeId × Value → H) (P : Program) (w : World) (fs : List Field) (off total : Nat) {α : Type} (R : World → List Value → α → Prop) : Prop :=
  ∀ (spare : Nat → Bool) fuel (cs : List Value), cs.length = off + total → (∀ (i : Nat) (f : Field), fs[i]? = some f → ∃ x, DataW.trod enc P w 0 spare true fuel f.type ((cs.drop f.offset).take (P.cellsOf f.type)) = some x ∧ ∀ n ∈ x.1.weights P f.type, n ≤ reachBytes) → ∃ v : α, R w (cs.drop off) v
theorem SOpensFs.one {f : Field} {off total : Nat} {α : Type} {R : World → List Value → α → Prop} (h1 : f.offset = off) (h2 : P.cellsOf f.type = total) (h : SOpens enc P w f.type R) : SOpensFs enc P w [f] off total R := by
  intro spare fuel cs hl hf
  obtain ⟨x, hx, hw⟩ := hf 0 f rfl
  rw [h1, h2, List.take_of_length_le (by rw [List.length_drop]; omega)] at hx
  exact h spare fuel _ x hx hw
theorem SOpensFs.cons {f : Field} {fs : List Field} {off sz total : Nat} {α β : Type} {R : World → List Value → α → Prop} {S : World → List Value → β → Prop} (h1 : f.offset = off) (h2 : P.cellsOf f.type = sz) (h : SOpens enc P w f.type R) (hs : SOpensFs enc P w fs (off + sz) total S) : SOpensFs enc P w (f :: fs) off (sz + total) (RPair R S) := by
  intro spare fuel cs hl hf
  obtain ⟨x, hx, hw⟩ := hf 0 f rfl
  rw [h1, h2] at hx
  obtain ⟨v, hv⟩ := h spare fuel _ x hx hw
  obtain ⟨u, hu⟩ := hs spare fuel cs (by omega) (fun i f hi => hf (i + 1) f (by simpa using hi))
  exact ⟨(v, u), _, _, by rw [← List.drop_drop, List.take_append_drop], hv, hu⟩
theorem sopens_struct {t : TypeId} {fs : Array Field} {total : Nat} {α : Type} {R : World → List Value → α → Prop} (ht : P.underlying t = some (.struct fs)) (hc : P.cellsOf t = total) (h : SOpensFs enc P w fs.toList 0 total R) : SOpens enc P w t R := by
  intro spare fuel cs x hx hw
  obtain ⟨xs, n, _, hxx, hl, hlen, hf⟩ := DataW.trod_struct ht hx
  rw [hxx] at hw
  simp only [DataW.weights, ht] at hw
  obtain ⟨v, hv⟩ := h spare n cs (by omega) (fun i f hi => by
    have hi' : fs[i]? = some f := by simpa using hi
    have hlt : i < fs.size := (Array.getElem?_eq_some_iff.1 hi').1
    refine ⟨_, (hf i f hi').trans (List.getElem?_eq_getElem (by omega)), fun k hk => hw k ?_⟩
    exact DataW.weights_mem_each (j := i) (t := f.type) (d := (xs[i]'(by omega)).1) (by rw [List.getElem?_map, hi]; rfl) (by rw [List.getElem?_map, List.getElem?_eq_getElem (by omega)]; rfl) k hk)
  exact ⟨v, by simpa using hv⟩
end
end Go.Proofs.YtpkknhhohbobaaaGreatDoor
namespace Go.Proofs.YtpkknhhohbobaaaGreatDoor
set_option linter.unusedSimpArgs false
set_option linter.unusedVariables false
open Go.RowKit

/-- What is read of a type's cells, and is of the reach, bears out 'R'. -/
def BOpens {H : Type} (enc : TypeId × Value → H) (P : Program) (w : World) (t : TypeId) {α : Type} (R : World → List Value → α → Prop) : Prop :=
  ∀ (spare : Nat → Bool) fuel cs x, DataW.trod enc P w 0 spare true fuel t cs = some x → Rows.uptoBulk x.1 ≤ 1048576 → ∃ v : α, R w cs v
section
variable {H : Type} {enc : TypeId × Value → H} {P : Program} {w : World}
theorem BOpens.of {t : TypeId} {α : Type} {R : World → List Value → α → Prop} (h : Opens enc P w t R) : BOpens enc P w t R := fun spare fuel cs x hx _ => h spare fuel cs x hx
theorem bulk_one (d : DataW H) : 1 ≤ Rows.uptoBulk d := by
  cases d with
  | lit l => cases l <;> simp [Rows.uptoBulk]
  | nil => simp [Rows.uptoBulk]
  | ptr d => simp [Rows.uptoBulk]
  | slice elems spare => simp [Rows.uptoBulk]
  | agg parts => simp [Rows.uptoBulk]
  | iface t d => simp [Rows.uptoBulk]
  | map entries => simp [Rows.uptoBulk]
  | held h => simp [Rows.uptoBulk]
theorem bulk_part {d : DataW H} {l : List (DataW H)} (h : d ∈ l) : Rows.uptoBulk d ≤ Rows.uptoBulkAll l := by
  induction l with
  | nil => cases h
  | cons x r ih =>
    simp only [Rows.uptoBulkAll]
    rcases List.mem_cons.1 h with rfl | h
    · omega
    · have := ih h; omega
theorem bulk_len (l : List (DataW H)) : l.length ≤ Rows.uptoBulkAll l := by
  induction l with
  | nil => simp [Rows.uptoBulkAll]
  | cons x r ih => have := bulk_one x; simp only [Rows.uptoBulkAll, List.length_cons]; omega
def RStrb : World → List Value → ByteArray → Prop := fun _ cs x => cs = [.string x] ∧ x.size ≤ 1048576
theorem bopens_str {t : TypeId} (ht : P.underlying t = some .string) : BOpens enc P w t RStrb := by
  intro spare fuel cs x h hb
  obtain ⟨s, h1, h2, h3⟩ := DataW.trod_string ht h
  refine ⟨s, h1, ?_⟩
  rw [h2] at hb
  simp only [Rows.uptoBulk] at hb
  have : s.data.toList.length = s.size := rfl
  omega
/-- A slice of the reach. -/
def RSlb {α : Type} (R : World → List Value → α → Prop) (sz : Nat) : World → List Value → List α → Prop := fun w cs l => ∃ a n c, cs = [.slice a n c] ∧ RSl R sz w a n c l ∧ n ≤ 1048576
theorem bopens_slice {t e : TypeId} {sz : Nat} {α : Type} {R : World → List Value → α → Prop} (ht : P.underlying t = some (.slice e)) (hsz : P.cellsOf e = sz) (hpos : 0 < sz) (hR : BOpens enc P w e R) : BOpens enc P w t (RSlb R sz) := by
  intro spare fuel cs x h hw
  rcases Deep.open_slice ht h with ⟨rfl, _⟩ | ⟨a, len, cap, m, n, D, Pl, rfl, hb, hl, hm, hmm, hxx, hx⟩
  · exact ⟨[], none, 0, 0, rfl, ⟨⟨rfl, Nat.le_refl _, Nat.zero_le _, fun _ => ⟨rfl, rfl⟩⟩, .inl rfl⟩, by simp⟩
  · have hle : len ≤ m := by subst hmm; split <;> omega
    rw [hxx] at hw
    simp only [Rows.uptoBulk] at hw
    have hlen : len ≤ 1048576 := by
      refine Nat.le_trans ?_ (Nat.le_trans (bulk_len _) (Nat.le_trans (Nat.le_trans (Nat.le_add_right _ _) (Nat.le_add_right _ _)) hw))
      simp
    have hv : ∀ i, i < len → ∃ v : α, ∃ cs', w.cells? 0 (a.add (i * P.cellsOf e)) (P.cellsOf e) = some cs' ∧ R w cs' v := fun i hi => by
      obtain ⟨cs', h1, h2⟩ := hx i (by omega)
      obtain ⟨v, hv⟩ := hR spare n cs' _ h2 (Nat.le_trans (bulk_part (List.mem_map.2 ⟨i, List.mem_range.2 hi, rfl⟩)) (Nat.le_trans (Nat.le_trans (Nat.le_add_right _ _) (Nat.le_add_right _ _)) hw))
      exact ⟨v, cs', h1, hv⟩
    by_cases h0 : len = 0
    · subst h0
      exact ⟨[], _, 0, cap, rfl, ⟨⟨rfl, Nat.zero_le _, hm, fun h => by cases h⟩, .inl rfl⟩, hlen⟩
    · obtain ⟨v0, cs0, hc0, _⟩ := hv 0 (by omega)
      have hlt := World.cells?_block hc0 (by omega)
      have hsp := (World.cells?_some hc0).2
      have hspot : a.spot = none := by
        obtain ⟨c0, hc⟩ : ∃ c0, cs0[0]? = some c0 := by
          rw [List.getElem?_eq_getElem (by rw [hsp.1]; omega)]; exact ⟨_, rfl⟩
        have := hsp.2 0 (by omega)
        rw [hc] at this
        have := World.cell?_spot this
        simpa [Addr.add] using this
      obtain ⟨b, off, spot⟩ := a
      simp only at hspot
      subst hspot
      let f : (i : Nat) → i < len → α := fun i hi => Classical.choose (hv i hi)
      have hf : ∀ i hi, ∃ cs', w.cells? 0 ((⟨b, off, none⟩ : Addr).add (i * P.cellsOf e)) (P.cellsOf e) = some cs' ∧ R w cs' (f i hi) := fun i hi => Classical.choose_spec (hv i hi)
      refine ⟨List.ofFn (fun i : Fin len => f i.1 i.2), _, len, cap, rfl, ⟨⟨by simp, hl, hm, fun h => by cases h⟩, .inr ⟨b, off, rfl, by simpa [add_zero_off] using hlt, fun i hi => ?_⟩⟩, hlen⟩
      obtain ⟨cs', h1, h2⟩ := hf i (by simpa using hi)
      obtain ⟨_, h3, h4⟩ := World.cells?_some h1
      refine ⟨cs', by rw [h3, hsz], fun j u hu => ?_, by simpa using h2⟩
      have hj : j < cs'.length := (List.getElem?_eq_some_iff.1 hu).1
      have := h4 j (by omega)
      rw [hu, add_zero_off, add_zero_off, hsz] at this
      exact this
/-- Fields, one behind the other. -/
def BOpensFs {H : Type} (enc : TypeId × Value → H) (P : Program) (w : World) (fs : List Field) (off total : Nat) {α : Type} (R : World → List Value → α → Prop) : Prop :=
  ∀ (spare : Nat → Bool) fuel (cs : List Value), cs.length = off + total → (∀ (i : Nat) (f : Field), fs[i]? = some f → ∃ x, DataW.trod enc P w 0 spare true fuel f.type ((cs.drop f.offset).take (P.cellsOf f.type)) = some x ∧ Rows.uptoBulk x.1 ≤ 1048576) → ∃ v : α, R w (cs.drop off) v
theorem BOpensFs.one {f : Field} {off total : Nat} {α : Type} {R : World → List Value → α → Prop} (h1 : f.offset = off) (h2 : P.cellsOf f.type = total) (h : BOpens enc P w f.type R) : BOpensFs enc P w [f] off total R := by
  intro spare fuel cs hl hf
  obtain ⟨x, hx, hw⟩ := hf 0 f rfl
  rw [h1, h2, List.take_of_length_le (by rw [List.length_drop]; omega)] at hx
  exact h spare fuel _ x hx hw
theorem BOpensFs.cons {f : Field} {fs : List Field} {off sz total : Nat} {α β : Type} {R : World → List Value → α → Prop} {S : World → List Value → β → Prop} (h1 : f.offset = off) (h2 : P.cellsOf f.type = sz) (h : BOpens enc P w f.type R) (hs : BOpensFs enc P w fs (off + sz) total S) : BOpensFs enc P w (f :: fs) off (sz + total) (RPair R S) := by
  intro spare fuel cs hl hf
  obtain ⟨x, hx, hw⟩ := hf 0 f rfl
  rw [h1, h2] at hx
  obtain ⟨v, hv⟩ := h spare fuel _ x hx hw
  obtain ⟨u, hu⟩ := hs spare fuel cs (by omega) (fun i f hi => hf (i + 1) f (by simpa using hi))
  exact ⟨(v, u), _, _, by rw [← List.drop_drop, List.take_append_drop], hv, hu⟩
theorem bopens_struct {t : TypeId} {fs : Array Field} {total : Nat} {α : Type} {R : World → List Value → α → Prop} (ht : P.underlying t = some (.struct fs)) (hc : P.cellsOf t = total) (h : BOpensFs enc P w fs.toList 0 total R) : BOpens enc P w t R := by
  intro spare fuel cs x hx hw
  obtain ⟨xs, n, _, hxx, hl, hlen, hf⟩ := DataW.trod_struct ht hx
  rw [hxx] at hw
  simp only [Rows.uptoBulk] at hw
  obtain ⟨v, hv⟩ := h spare n cs (by omega) (fun i f hi => by
    have hi' : fs[i]? = some f := by simpa using hi
    have hlt : i < fs.size := (Array.getElem?_eq_some_iff.1 hi').1
    refine ⟨_, (hf i f hi').trans (List.getElem?_eq_getElem (by omega)), Nat.le_trans (bulk_part ?_) (Nat.le_trans (Nat.le_add_right _ 1) hw)⟩
    exact List.mem_map.2 ⟨xs[i]'(by omega), List.getElem_mem _, rfl⟩)
  exact ⟨v, by simpa using hv⟩
end
end Go.Proofs.YtpkknhhohbobaaaGreatDoor
