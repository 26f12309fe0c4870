/- text: a line's letters and length; a parsed event's bounds (plain) -/
import Derived.Test.YtpkknhhohbobaaaGreatDoorG6
namespace Go.Proofs.YtpkknhhohbobaaaGreatDoor
set_option linter.unusedSimpArgs false
set_option linter.unusedVariables false
open Go.RowKit
def szW (ws : List W8) : Nat := (ws.map fun u => u.length + 1).sum
theorem szW_app (a b : List W8) : szW (a ++ b) = szW a + szW b := by unfold szW; rw [List.map_append, List.sum_append]
theorem szW_cons (u : W8) (b : List W8) : szW (u :: b) = u.length + 1 + szW b := rfl
theorem szW_nil : szW [] = 0 := rfl
theorem szW_le {ws : List W8} {m : Nat} (h : ∀ u ∈ ws, u.length ≤ m) : szW ws ≤ (m + 1) * ws.length := by
  induction ws with
  | nil => simp [szW]
  | cons u l ih =>
    have h1 := h u (by simp)
    have h2 := ih (fun v hv => h v (by simp [hv]))
    rw [szW_cons, List.length_cons, Nat.mul_succ]
    omega
theorem join_sz (c : UInt8) : ∀ ws : List W8, (Lib.join ws [c]).length ≤ szW ws
  | [] => Nat.zero_le _
  | [u] => by rw [Lib.join_one, szW_cons]; omega
  | u :: v :: r => by
    rw [join_cons2 u (v :: r) (by simp), szW_cons]
    have := join_sz c (v :: r)
    simp only [List.length_append, List.length_singleton]
    omega
theorem join_ge (c : UInt8) : ∀ ws : List W8, (∀ u ∈ ws, u ≠ []) → ws.length ≤ (Lib.join ws [c]).length
  | [], _ => Nat.zero_le _
  | [u], h => by
    have : u ≠ [] := h u (by simp)
    rw [Lib.join_one]
    show 1 ≤ u.length
    exact Nat.pos_of_ne_zero (fun e => this (List.eq_nil_of_length_eq_zero e))
  | u :: v :: r, h => by
    rw [join_cons2 u (v :: r) (by simp)]
    have := join_ge c (v :: r) (fun x hx => h x (by simp [hx]))
    simp only [List.length_append, List.length_singleton, List.length_cons] at this ⊢
    omega
theorem join_mem (c : UInt8) : ∀ (ws : List W8) (d : UInt8), d ∈ Lib.join ws [c] → d = c ∨ ∃ u ∈ ws, d ∈ u
  | [], d, h => by cases h
  | [u], d, h => .inr ⟨u, by simp, by rwa [Lib.join_one] at h⟩
  | u :: v :: r, d, h => by
    rw [join_cons2 u (v :: r) (by simp)] at h
    rcases List.mem_append.1 h with h | h
    · rcases List.mem_append.1 h with h | h
      · exact .inr ⟨u, by simp, h⟩
      · exact .inl (List.mem_singleton.1 h)
    · rcases join_mem c (v :: r) d h with h | ⟨x, hx, hd⟩
      · exact .inl h
      · exact .inr ⟨x, by simp [hx], hd⟩
/-- Letters that are shown, but no blank. -/
def okC (c : UInt8) : Prop := 33 ≤ c.toNat ∧ c.toNat ≤ 126
theorem okC_num {n : Nat} : ∀ c ∈ Lib.decDigits n, okC c := fun c hc => by have := num_digit n c hc; exact ⟨by omega, by omega⟩
theorem okC_conf {a b : Nat} : ∀ c ∈ Lib.decDigits a ++ 46 :: Lib.decDigits b, okC c := fun c hc => by
  rcases List.mem_append.1 hc with h | h
  · exact okC_num c h
  · rcases List.mem_cons.1 h with rfl | h
    · exact ⟨by decide, by decide⟩
    · exact okC_num c h
theorem hx_ok : ∀ d : Fin 16, 33 ≤ (hx d.val).toNat ∧ (hx d.val).toNat ≤ 126 := by decide +kernel
theorem okC_hex (s : W8) : ∀ c ∈ hexW s, okC c := fun c hc => by
  rcases List.mem_cons.1 hc with rfl | h
  · exact ⟨by decide, by decide⟩
  · obtain ⟨b, _, hb⟩ := List.mem_flatMap.1 h
    unfold hx2 at hb
    have hb256 := b.toNat_lt
    rcases List.mem_cons.1 hb with rfl | hb
    · exact hx_ok ⟨b.toNat / 16, by omega⟩
    · obtain rfl := List.mem_singleton.1 hb
      exact hx_ok ⟨b.toNat % 16, by omega⟩
theorem okC_deps (l : List Nat) : ∀ c ∈ depsW l, okC c := fun c hc => by
  rcases List.mem_cons.1 hc with rfl | h
  · exact ⟨by decide, by decide⟩
  · rcases join_mem 44 _ c h with rfl | ⟨u, hu, hd⟩
    · exact ⟨by decide, by decide⟩
    · obtain ⟨d, _, rfl⟩ := List.mem_map.1 hu
      exact okC_num c hd
theorem okC_kind : ∀ k : Fin 13, (kindW k.val).all (fun c => decide (33 ≤ c.toNat) && decide (c.toNat ≤ 126)) = true := by decide +kernel
theorem okC_field (f : Lt) (x : TEv) : ∀ u ∈ fieldW f x, ∀ c ∈ u, okC c := by
  intro u hu
  cases f with
  | c => obtain rfl := List.mem_singleton.1 hu; exact okC_conf
  | n => obtain rfl := List.mem_singleton.1 hu; exact okC_conf
  | s => obtain rfl := List.mem_singleton.1 hu; exact okC_num
  | m =>
    simp only [fieldW, msgW, List.mem_cons, List.not_mem_nil, or_false] at hu
    rcases hu with rfl | rfl | rfl | rfl | rfl | rfl
    · exact okC_num
    · exact okC_num
    · exact okC_num
    · exact okC_num
    · exact okC_deps _
    · exact okC_hex _
  | v =>
    simp only [fieldW, List.mem_cons, List.not_mem_nil, or_false] at hu
    rcases hu with rfl | rfl | rfl
    · exact okC_num
    · exact okC_conf
    · exact okC_num
  | a => obtain ⟨n, _, rfl⟩ := List.mem_map.1 hu; exact okC_conf
  | o => obtain ⟨n, _, rfl⟩ := List.mem_map.1 hu; exact okC_conf
  | b => obtain rfl := List.mem_singleton.1 hu; exact okC_hex _
theorem okC_ev {x : TEv} (h : evE x = 0) : ∀ u ∈ evW x, ∀ c ∈ u, okC c := by
  obtain ⟨k1, k2, _⟩ := evE_zero h
  intro u hu
  unfold evW at hu
  rcases List.mem_cons.1 hu with rfl | hu
  · exact okC_num
  · rcases List.mem_cons.1 hu with rfl | hu
    · intro c hc
      have := List.all_eq_true.1 (okC_kind ⟨x.kind.toNat, by omega⟩) c hc
      rw [Bool.and_eq_true, decide_eq_true_eq, decide_eq_true_eq] at this
      exact this
    · obtain ⟨f, _, hu⟩ := List.mem_flatMap.1 hu
      exact okC_field f x u hu
theorem okC_line {x : TEv} (h : evE x = 0) : ∀ c ∈ lineW x, 32 ≤ c.toNat ∧ c.toNat ≤ 126 := by
  intro c hc
  rcases join_mem 32 _ c hc with rfl | ⟨u, hu, hd⟩
  · exact ⟨by decide, by decide⟩
  · have := okC_ev h u hu c hd
    exact ⟨Nat.le_of_succ_le this.1, this.2⟩
theorem line_pcs {x : TEv} (h : evE x = 0) : pcs 32 (lineW x) = evW x :=
  pcs_of_join _ (by unfold evW; simp) (fun u hu hc => by have := (okC_ev h u hu 32 hc).1; revert this; decide)
theorem line_parse {x : TEv} (hw : x.Wf) (h : evE x = 0) : parseL (lineW x) = some (cleanE x) := by
  unfold parseL
  rw [line_pcs h]
  exact parse_print hw h
section
variable {w : World} {x : TEv} {da na : Option Addr} {dn dc nn nc : Nat}
theorem field_sz (h : EvR w x da dn dc na nn nc) (f : Lt) (ho : fieldOk f x = true) : szW (fieldW f x) ≤ 48000000 := by
  obtain ⟨f1, f2, f3⟩ := h.wf.cf
  obtain ⟨f4, f5, f6⟩ := h.wf.nu
  obtain ⟨m1, m2, m3⟩ := h.wf.mg
  have hnm : x.names.all (fun n => prOk n.proc) = true → szW (x.names.map nameW) ≤ 48000000 := fun ha => by
    have h1 := szW_le (m := 41) (ws := x.names.map nameW) (fun u hu => by
      obtain ⟨n, hn, rfl⟩ := List.mem_map.1 hu
      exact nameW_len (List.all_eq_true.1 ha n hn) (h.wf.nm n hn))
    rw [List.length_map, h.nlen] at h1
    have := h.nn
    omega
  have hd := depsW_len m3
  rw [h.deps_len] at hd
  have hdn := h.dn
  have hx1 := hex_len x.m.pay
  have hx2 := hex_len x.state
  have hp1 := h.pay
  have hp2 := h.st
  cases f with
  | c =>
    have := confW_len (c := x.conf) ho f1
    show (confW x.conf).length + 1 + 0 ≤ _
    omega
  | n =>
    have := confW_len (c := x.new) ho f2
    show (confW x.new).length + 1 + 0 ≤ _
    omega
  | s =>
    have := num_len f4
    show (Lib.decDigits x.mem).length + 1 + 0 ≤ _
    omega
  | m =>
    have ho' : prOk x.m.frm = true ∧ prOk x.m.svc = true := by simpa [fieldOk] using ho
    have a1 := prW_len ho'.1
    have a2 := prW_len ho'.2
    have a3 := num_len (show x.m.seq < 18446744073709551616 by omega)
    have a4 := num_len m2
    show (prW x.m.frm).length + 1 + ((Lib.decDigits x.m.seq).length + 1 + ((Lib.decDigits x.m.stamp).length + 1 + ((prW x.m.svc).length + 1 + ((depsW x.m.deps).length + 1 + ((hexW x.m.pay).length + 1 + 0))))) ≤ _
    omega
  | v =>
    have a1 := confW_len (c := x.vconf) ho f3
    have a2 := num_len f5
    have a3 := num_len f6
    show (Lib.decDigits x.num).length + 1 + ((confW x.vconf).length + 1 + ((Lib.decDigits x.vmem).length + 1 + 0)) ≤ _
    omega
  | a => exact hnm ho
  | o =>
    have : fieldOk .o x = (decide (x.names.length = 1) && x.names.all (fun n => prOk n.proc)) := rfl
    rw [this, Bool.and_eq_true] at ho
    exact hnm ho.2
  | b =>
    show (hexW x.state).length + 1 + 0 ≤ _
    omega
theorem flat_sz {l : List Lt} {f : Lt → List W8} {n : Nat} (h : ∀ y ∈ l, szW (f y) ≤ n) : szW (l.flatMap f) ≤ n * l.length := by
  induction l with
  | nil => simp [szW]
  | cons y0 l ih =>
    have h1 := h y0 (by simp)
    have h2 := ih (fun y hy => h y (by simp [hy]))
    rw [List.flatMap_cons, szW_app, List.length_cons, Nat.mul_succ]
    omega
theorem line_short (h : EvR w x da dn dc na nn nc) (h0 : evE x = 0) : (lineW x).length ≤ 200000000 := by
  obtain ⟨k1, k2, ho⟩ := evE_zero h0
  unfold evOk at ho
  rw [Bool.and_eq_true, List.all_eq_true] at ho
  have h1 := flat_sz (n := 48000000) (f := (fieldW · x)) (l := rowL x.kind.toNat) (fun f hf => field_sz h f (ho.2 f hf))
  have hk13 : x.kind.toNat < 13 := by omega
  have h3 : (rowL x.kind.toNat).length ≤ 3 := rowL_len ⟨_, hk13⟩
  have h4 : 48000000 * (rowL x.kind.toNat).length ≤ 48000000 * 3 := Nat.mul_le_mul_left _ h3
  have h5 := prW_len ho.1
  have h6 : (kindW x.kind.toNat).length ≤ 7 := kindW_len ⟨_, hk13⟩
  have h7 := join_sz 32 (evW x)
  have h8 : szW (evW x) = (prW x.proc).length + 1 + ((kindW x.kind.toNat).length + 1 + szW ((rowL x.kind.toNat).flatMap (fieldW · x))) := rfl
  unfold lineW
  omega
end
theorem foldl_m (x : TEv) : ∀ (r : List Lt) (acc : TEv), .m ∉ r → (r.foldl (fun y f => setF f x y) acc).m = acc.m
  | [], _, _ => rfl
  | f :: r, acc, h => by
    rw [List.foldl_cons, foldl_m x r _ (fun hm => h (by simp [hm]))]
    cases f <;> first | rfl | exact absurd (List.mem_cons_self ..) h
theorem foldl_names (x : TEv) : ∀ (r : List Lt) (acc : TEv), .a ∉ r → .o ∉ r → (r.foldl (fun y f => setF f x y) acc).names = acc.names
  | [], _, _, _ => rfl
  | f :: r, acc, h, h' => by
    rw [List.foldl_cons, foldl_names x r _ (fun hm => h (by simp [hm])) (fun hm => h' (by simp [hm]))]
    cases f <;> first | rfl | exact absurd (List.mem_cons_self ..) h | exact absurd (List.mem_cons_self ..) h'
theorem foldl_state (x : TEv) : ∀ (r : List Lt) (acc : TEv), .b ∉ r → (r.foldl (fun y f => setF f x y) acc).state = acc.state
  | [], _, _ => rfl
  | f :: r, acc, h => by
    rw [List.foldl_cons, foldl_state x r _ (fun hm => h (by simp [hm]))]
    cases f <;> first | rfl | exact absurd (List.mem_cons_self ..) h
/-- A parsed event is no greater than its line. -/
theorem parsed_le {s : W8} {y : TEv} (h : parseL s = some y) : y.m.deps.length ≤ s.length + 1 ∧ y.names.length ≤ s.length + 1 ∧ y.m.pay.length ≤ s.length + 1 ∧ y.state.length ≤ s.length + 1 := by
  obtain ⟨hw, h0, h1, h2⟩ := print_parse h
  have hin : ∀ f ∈ rowL y.kind.toNat, ∀ u ∈ fieldW f y, u.length ≤ s.length := fun f hf u hu => pcs_small 32 s u (by
    rw [← h1]
    unfold evW
    exact List.mem_cons_of_mem _ (List.mem_cons_of_mem _ (List.mem_flatMap.2 ⟨f, hf, hu⟩)))
  have hln := pcs_le 32 s
  rw [← h1] at hln
  have hnm : ∀ f ∈ rowL y.kind.toNat, fieldW f y = y.names.map nameW → y.names.length ≤ s.length + 1 := fun f hf e => by
    have h3 : ((rowL y.kind.toNat).flatMap (fieldW · y)).length ≤ (evW y).length := by unfold evW; simp only [List.length_cons]; omega
    have h4 : (fieldW f y).length ≤ ((rowL y.kind.toNat).flatMap (fieldW · y)).length := by
      generalize rowL y.kind.toNat = r at hf
      clear h3
      induction r with
      | nil => cases hf
      | cons g r ih =>
        rw [List.flatMap_cons, List.length_append]
        rcases List.mem_cons.1 hf with rfl | hf
        · omega
        · have := ih hf; omega
    rw [e, List.length_map] at h4
    omega
  refine ⟨?_, ?_, ?_, ?_⟩
  · by_cases hm : Lt.m ∈ rowL y.kind.toNat
    · have h3 := hin .m hm (depsW y.m.deps) (by simp [fieldW, msgW])
      have h4 := join_ge 44 (y.m.deps.map Lib.decDigits) (fun u hu => by obtain ⟨d, _, rfl⟩ := List.mem_map.1 hu; exact num_ne d)
      rw [List.length_map] at h4
      have h5 : (depsW y.m.deps).length = (Lib.join (y.m.deps.map Lib.decDigits) [44]).length + 1 := rfl
      omega
    · have : y.m = TMg.zero := by rw [← h2]; exact foldl_m y _ _ hm
      rw [this]
      exact Nat.zero_le _
  · by_cases ha : Lt.a ∈ rowL y.kind.toNat
    · exact hnm _ ha rfl
    · by_cases hb : Lt.o ∈ rowL y.kind.toNat
      · exact hnm _ hb rfl
      · have : y.names = [] := by rw [← h2]; exact foldl_names y _ _ ha hb
        rw [this]
        exact Nat.zero_le _
  · by_cases hm : Lt.m ∈ rowL y.kind.toNat
    · have h3 := hin .m hm (hexW y.m.pay) (by simp [fieldW, msgW])
      have h4 := hex_len y.m.pay
      omega
    · have : y.m = TMg.zero := by rw [← h2]; exact foldl_m y _ _ hm
      rw [this]
      exact Nat.zero_le _
  · by_cases hb : Lt.b ∈ rowL y.kind.toNat
    · have h3 := hin .b hb (hexW y.state) (by simp [fieldW])
      have h4 := hex_len y.state
      omega
    · have : y.state = [] := by rw [← h2]; exact foldl_state y _ _ hb
      rw [this]
      exact Nat.zero_le _
/-- A parsed event, printed. -/
theorem parsed_print {s : W8} {y : TEv} (h : parseL s = some y) : evE y = 0 ∧ prS y = mkB s ∧ cleanE y = y := by
  obtain ⟨hw, h0, h1, h2⟩ := print_parse h
  refine ⟨h0, ?_, h2⟩
  unfold prS
  rw [if_pos h0]
  unfold lineW
  rw [h1, pcs_join _ s (Nat.le_refl _)]
theorem EvF.evr {w : World} {B : Nat} {s : W8} {y : TEv} {da na : Option Addr} {dc nc : Nat} (hf : EvF w B y da dc na nc) (h : parseL s = some y) (hs : s.length ≤ 1048000) : EvR w y da y.m.deps.length dc na y.names.length nc := by
  obtain ⟨hw, h0, h1, h2⟩ := print_parse h
  obtain ⟨b1, b2, b3, b4⟩ := parsed_le h
  exact ⟨hw, hf.dr, hf.nr, by omega, by omega, by omega, by omega⟩
end Go.Proofs.YtpkknhhohbobaaaGreatDoor
