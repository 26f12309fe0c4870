/- Small general laws over the kit: what a slice reads as, appends from whatever source, worlds below a number. Conditions: as each law says. -/
import Derived.WalkKit
import Derived.WalkSpells
import Derived.WalkLawsBesides
import Derived.Lib.Hide
import Derived.Laws.AppendOwnNone
import Derived.OwnWalk
import Derived.ProofKit
import Derived.Deep.Slices
import Derived.Lib.ConvBytes
namespace Go.Proofs.YtpkknhhohbobaaaGreatDoor
set_option linter.unusedSimpArgs false
set_option linter.unusedVariables false
open Go.RowKit

theorem add_zero_off (b off j : Nat) : (⟨b, off, none⟩ : Addr).add j = ⟨b, off + j, none⟩ := by
  unfold Addr.add; split <;> simp_all

/-- The slice '.slice a n c' reads as n elements of 'size' cells each: the cells are 'xs'. -/
def Rd (w : World) (size : Nat) (a : Option Addr) (n c : Nat) (xs : List Value) : Prop :=
  (xs.length = n * size ∧ n ≤ c ∧ c ≤ maxLen ∧ (a = none → n = 0 ∧ c = 0)) ∧ (n = 0 ∨ ∃ b off, a = some ⟨b, off, none⟩ ∧ b < w.heap.size ∧ ∀ j u, xs[j]? = some u → w.cell? ⟨b, off + j, none⟩ = some u)

section
variable {w w' : World} {size n c : Nat} {a : Option Addr} {xs : List Value}
theorem Rd.length_eq (h : Rd w size a n c xs) : xs.length = n * size := h.1.1
theorem Rd.le_max (h : Rd w size a n c xs) : n ≤ maxLen := Nat.le_trans h.1.2.1 h.1.2.2.1
theorem Rd.le_cap (h : Rd w size a n c xs) : n ≤ c := h.1.2.1
theorem Rd.below {B : Nat} (h : Rd w size a n c xs) (hb : Below B w w') (hB : w.heap.size ≤ B) : Rd w' size a n c xs := by
  refine ⟨h.1, ?_⟩
  rcases h.2 with hn | ⟨b, off, rfl, hlt, hc⟩
  · exact .inl hn
  · exact .inr ⟨b, off, rfl, Nat.lt_of_lt_of_le hlt hb.size, fun j u hu => (hb.cell (p := ⟨b, off + j, none⟩) (by show b < B; omega)).trans (hc j u hu)⟩
theorem Rd.mk_nil (w : World) (size : Nat) : Rd w size none 0 0 [] := ⟨⟨by simp, Nat.le_refl _, Nat.zero_le _, fun _ => ⟨rfl, rfl⟩⟩, .inl rfl⟩
theorem Rd.own {base : Nat} {e : TypeId} {v : Value} (h : w.ownsRow base e size v n xs) : ∃ a c, v = .slice a n c ∧ Rd w size a n c xs := by
  have hlt := h.lt
  have hcells := fun g hg => h.cells (g := g) hg
  have hl := h.1
  rcases h.2 with ⟨rfl, rfl⟩ | ⟨g, cap, cur, rfl, hb, hg, h1, h2, _⟩
  · exact ⟨none, 0, rfl, ⟨by simpa using hl, Nat.le_refl _, Nat.zero_le _, fun _ => ⟨rfl, rfl⟩⟩, .inl rfl⟩
  · refine ⟨_, cap, rfl, ⟨hl, h1, h2, fun h => by cases h⟩, .inr ⟨g, 0, rfl, (hlt g rfl).2, fun j u hu => ?_⟩⟩
    have := hcells g rfl j u hu
    rw [add_zero_off] at this
    simpa using this
theorem Rd.alloc (h : Rd w size a n c xs) (o : Obj) : Rd (w.alloc o) size a n c xs :=
  h.below ((Below.refl w.heap.size w).alloc (Nat.le_refl _) o) (Nat.le_refl _)
theorem Rd.addr (h : Rd w size a n c xs) (hn : 0 < n) : ∃ b off, a = some ⟨b, off, none⟩ ∧ b < w.heap.size := by
  rcases h.2 with h | ⟨b', off', he, hl, _⟩
  · omega
  · exact ⟨_, _, he, hl⟩
theorem Rd.cells {b off : Nat} (h : Rd w size (some ⟨b, off, none⟩) n c xs) (j : Nat) (hj : j < n * size) : w.cell? ⟨b, off + j, none⟩ = some (xs.getD j undef) := by
  have hl := h.length_eq
  rcases h.2 with h | ⟨b', off', he, _, hc⟩
  · subst h; simp at hj
  · simp only [Option.some.injEq, Addr.mk.injEq, and_true] at he
    obtain ⟨rfl, rfl⟩ := he
    exact hc j _ (by rw [List.getD_eq_getElem?_getD, List.getElem?_eq_getElem (by omega)]; rfl)
theorem Rd.at {b off : Nat} (h : Rd w size (some ⟨b, off, none⟩) n c xs) {j : Nat} {u : Value} (hj : xs[j]? = some u) : w.cell? ⟨b, off + j, none⟩ = some u := by
  have hlt : j < xs.length := (List.getElem?_eq_some_iff.1 hj).1
  rw [h.cells j (by rw [← h.length_eq]; exact hlt), List.getD_eq_getElem?_getD, hj]; rfl
/-- A piece of it: x[i:j]. -/
theorem Rd.part {b off : Nat} (h : Rd w size (some ⟨b, off, none⟩) n c xs) (i k : Nat) (hi : i + k ≤ n) : Rd w size (some ⟨b, off + i * size, none⟩) k (c - i) ((xs.drop (i * size)).take (k * size)) := by
  have hl := h.length_eq
  have hle := h.1.2.1
  have hmx := h.1.2.2.1
  have hmul : i * size + k * size ≤ n * size := by rw [← Nat.add_mul]; exact Nat.mul_le_mul_right _ hi
  refine ⟨⟨by rw [List.length_take, List.length_drop]; omega, by omega, by omega, fun h => by cases h⟩, ?_⟩
  rcases h.2 with h0 | ⟨b', off', he, hlt, hc⟩
  · exact .inl (by omega)
  · simp only [Option.some.injEq, Addr.mk.injEq, and_true] at he
    obtain ⟨rfl, rfl⟩ := he
    refine .inr ⟨_, _, rfl, hlt, fun j u hu => ?_⟩
    rw [List.getElem?_take] at hu
    split at hu
    · rw [List.getElem?_drop] at hu
      rw [Nat.add_assoc]; exact hc _ _ hu
    · cases hu
end

/-- What a slice type's number and its element's say. -/
structure Elt (P : Program) (t e : TypeId) (z : Value) (size bytes : Nat) : Prop where
  ty : P.underlying t = some (.slice e)
  info : (P.info? e).map (fun i => (i.zero, i.size, i.bytes)) = some (some z, size, bytes)
  cells : z.cells.size = size
  pos : 0 < size

/-- 'append(v, x...)': v the call's own, x from anywhere. -/
theorem wpList_append_rd {P : Program} {w : World} {ops : Array Oper} {rest : List Oper} {o : Oper} {a : Act} {Q : Exit → Act → World → Prop} {t e : TypeId} {z : Value} {size bytes : Nat} (E : Elt P t e z size bytes) (hgd : o.guard = none) (s x : Operand)
    (ho : o.op = .call { callee := .builtin .append, args := #[s, x], argTypes := #[t, t] })
    {base : Nat} {v : Value} {n : Nat} {xs : List Value} (hown : w.ownsRow base e size v n xs) (hs : a.eval s = v)
    {xa : Option Addr} {m c : Nat} {news : List Value} (hr : Rd w size xa m c news) (hx : a.eval x = .slice xa m c) (h1 : ∀ u ∈ news, u.oneCell' = true)
    (h63 : n + m ≤ maxLen) (hbytes : (n + m) * bytes ≤ 140737488355328) (hbase : base ≤ w.heap.size)
    (h : ∀ v' w', w'.ownsRow base e size v' (n + m) (xs ++ news) → w.grownBy w' v.ownBlock → wpList P ops Q rest (a.put o.dst v') w') : wpList P ops Q (o :: rest) a w := by
  obtain ⟨i, hi, hz0, hz1, hz2⟩ := info_parts E.info
  rcases hr with ⟨⟨hl, _, _, hnil⟩, rfl | ⟨b, off, rfl, _, hc⟩⟩
  · have hn : news = [] := List.eq_nil_of_length_eq_zero (by simpa using hl)
    subst hn
    cases xa with
    | some ad => exact wpList_append_own w hgd s x t ho base e i z size bytes E.ty hi hz0 hz1 hz2 E.cells E.pos v n xs hs hown ad 0 c [] hx hl (fun j u hu => by simp at hu) h1 h63 hbytes hbase (fun v' w' h2 h3 _ => h v' w' h2 h3)
    | none =>
    obtain ⟨_, rfl⟩ := hnil rfl
    refine wpList_append_own_none hgd s x t ho base e i size E.ty hi v n xs hs hown hx ?_
    exact h v w (by simpa using hown) ⟨rfl, rfl, rfl, Nat.le_refl _, fun _ _ _ => rfl⟩
  · refine wpList_append_own w hgd s x t ho base e i z size bytes E.ty hi hz0 hz1 hz2 E.cells E.pos v n xs hs hown ⟨b, off, none⟩ m c news hx hl ?_ h1 h63 hbytes hbase (fun v' w' h2 h3 _ => h v' w' h2 h3)
    intro j u hu
    rw [add_zero_off]; exact hc j u hu

theorem belG {B : Nat} {w0 w w' : World} {row : Option Nat} (h : Below B w0 w) (hg : w.grownBy w' row) (hB : B ≤ w.heap.size) (hr : ∀ k, row = some k → B ≤ k) : Below B w0 w' := h.grown hg hB hr

/-- 'append(v, u)': one cell; v the call's own. -/
theorem wpList_app1 {P : Program} {w : World} {ops : Array Oper} {rest : List Oper} {o : Oper} {a : Act} {Q : Exit → Act → World → Prop} {t e : TypeId} {z : Value} {bytes : Nat} (E : Elt P t e z 1 bytes)
    (hgd : o.guard = none) (s x : Operand) (ho : o.op = .call { callee := .builtin .append, args := #[s, x], argTypes := #[t, t] })
    {base : Nat} {v : Value} {n : Nat} {xs : List Value} (hown : w.ownsRow base e 1 v n xs) (hs : a.eval s = v) {u : Value} (hx : a.eval x = .slice (some ⟨w.heap.size, 0, none⟩) 1 1) (h1 : u.oneCell' = true)
    (h63 : n + 1 ≤ maxLen) (hbytes : (n + 1) * bytes ≤ 140737488355328) (hbase : base ≤ w.heap.size)
    (h : ∀ v' w', w'.ownsRow base e 1 v' (n + 1) (xs ++ [u]) → (w.alloc (.cells #[u] e)).grownBy w' v.ownBlock → wpList P ops Q rest (a.put o.dst v') w') :
    wpList P ops Q (o :: rest) a (w.alloc (.cells #[u] e)) := by
  obtain ⟨i, hi, hz0, hz1, hz2⟩ := info_parts E.info
  exact wpList_append_own _ hgd s x t ho base e i z 1 bytes E.ty hi hz0 hz1 hz2 E.cells (by decide) v n xs hs (hown.alloc _) ⟨w.heap.size, 0, none⟩ 1 1 [u] hx rfl (cell_one_new _ _ _) (by intro u' hu; simp at hu; subst hu; exact h1) h63 hbytes (by simp; omega) (fun v' w' h2 h3 _ => h v' w' h2 h3)

/-- 'make([]T, 0, n)'. -/
theorem wpList_mk0 {P : Program} {w : World} {ops : Array Oper} {rest : List Oper} {o : Oper} {a : Act} {Q : Exit → Act → World → Prop} {t e : TypeId} {z : Value} {size bytes : Nat} (E : Elt P t e z size bytes)
    (hg : o.guard = none) (l c : Operand) (hop : o.op = Op.makeSlice t l c)
    (base n : Nat) {C : Int} (hl : a.eval l = .int .i64 0) (hc : a.eval c = .int .i64 C) (hC : C = (n : Int)) (b2 : bytes * n ≤ 281474976710656) (b3 : n ≤ maxLen) (b4 : base ≤ w.heap.size)
    (hK : ∀ w', w'.ownsRow base e size (.slice (some ⟨w.heap.size, 0, none⟩) 0 n) 0 [] → w.grownBy w' none → wpList P ops Q rest (a.put o.dst (.slice (some ⟨w.heap.size, 0, none⟩) 0 n)) w') :
    wpList P ops Q (o :: rest) a w := by
  obtain ⟨i, hi, hz0, hz1, hz2⟩ := info_parts E.info
  exact wpList_make_own _ hg l c t hop base e i z size E.ty hi hz0 hz1 .i64 .i64 C n hl hc hC (by rw [hz2]; exact b2) b3 b4 hK

/-- 'string(b)'. -/
theorem wpList_bytes_str {P : Program} {w : World} {ops : Array Oper} {rest : List Oper} {o : Oper} {a : Act} {Q : Exit → Act → World → Prop} {t e d : TypeId}
    (hs : P.underlying t = some (.slice e)) (he : P.underlying e = some (.int .u8)) (hd : P.underlying d = some .string) (hgd : o.guard = none) (x : Operand) (ho : o.op = .convert t d x)
    {xa : Option Addr} {m c : Nat} {l : List Int} (hx : a.eval x = .slice xa m c) (hr : Rd w 1 xa m c (l.map (Value.int .u8)))
    (h : ∀ S : ByteArray, Hid (S = strOfNums l) → S.size ≤ m → m ≤ S.size → wpList P ops Q rest (a.put o.dst (.string S)) w) : wpList P ops Q (o :: rest) a w := by
  have hlm : (strOfNums l).size = m := by rw [strOfNums_size]; simpa using hr.length_eq
  have hrun : (convert t d (.slice xa m c)).run P w = .ok (.string (strOfNums l)) w := by
    rcases hr with ⟨⟨hl, _, _, _⟩, rfl | ⟨b, off, rfl, _, hc⟩⟩
    · have hn : l = [] := List.eq_nil_of_length_eq_zero (by simpa using hl)
      subst hn
      cases xa with
      | none => exact run_convert_bytes_nil w t e hs he 0 c d hd
      | some ad => rw [run_convert_bytes_string w t d e _ 0 c hs he hd, run_bytesToString w ad 0 c [] (by simpa using run_loadCells_list (P := P) w ad [] (fun j v hj => by simp at hj))]; rfl
    · refine run_convert_bytes_arg w t e hs he b off m c l (by simpa using hl) (fun i hi => ?_) d hd
      have hl' : l.length = m := by simpa using hl
      rw [hc i (.int .u8 (l.getD i 0)) (by rw [List.getElem?_map, List.getD_eq_getElem?_getD, List.getElem?_eq_getElem (by omega)]; rfl)]
  refine wpList_plain hgd fun K hK => ?_
  unfold Oper.wp
  simp [execOp, ho, hx, hrun, Result.andThen]
  exact hK _ _ (h _ rfl (by omega) (by omega))

theorem Rd.lit {w : World} {cs : Array Value} {e : TypeId} {b n : Nat} (hb : b = w.heap.size) (hn : n = cs.size) (hm : n ≤ maxLen) : Rd (w.alloc (.cells cs e)) 1 (some ⟨b, 0, none⟩) n n cs.toList := by
  subst hb hn
  refine ⟨⟨by simp, Nat.le_refl _, hm, fun h => by cases h⟩, .inr ⟨_, 0, rfl, by simp, fun j u' hu => ?_⟩⟩
  rw [World.cell?_alloc_at _ _ _ _ rfl]
  simpa using hu
theorem Rd.one {w : World} {u : Value} {e : TypeId} {b : Nat} (hb : b = w.heap.size) : Rd (w.alloc (.cells #[u] e)) 1 (some ⟨b, 0, none⟩) 1 1 [u] :=
  Rd.lit hb rfl (by decide)
theorem Rd.ints3 {w : World} {k : IntKind} {x y z : Int} {e : TypeId} {b : Nat} (hb : b = w.heap.size) : Rd (w.alloc (.cells #[.int k x, .int k y, .int k z] e)) 1 (some ⟨b, 0, none⟩) 3 3 ([x, y, z].map (Value.int k)) :=
  Rd.lit hb rfl (by decide)
theorem oneCell_ints (k : IntKind) (l : List Int) : ∀ u ∈ l.map (Value.int k), u.oneCell' = true := by
  intro u hu
  obtain ⟨x, _, rfl⟩ := List.mem_map.1 hu
  rfl
/-- The slice '.slice a n c' reads as the list 'l': each element's 'sz' cells bear out 'R'. -/
def RSl {α : Type} (R : World → List Value → α → Prop) (sz : Nat) (w : World) (a : Option Addr) (n c : Nat) (l : List α) : Prop :=
  (l.length = n ∧ n ≤ c ∧ c ≤ maxLen ∧ (a = none → n = 0 ∧ c = 0)) ∧ (n = 0 ∨ ∃ b off, a = some ⟨b, off, none⟩ ∧ b < w.heap.size ∧
    ∀ i (h : i < l.length), ∃ cs, cs.length = sz ∧ (∀ j u, cs[j]? = some u → w.cell? ⟨b, off + i * sz + j, none⟩ = some u) ∧ R w cs l[i])
/-- Readings of one cell list. -/
def RInt (k : IntKind) : World → List Value → Int → Prop := fun _ cs x => cs = [.int k x] ∧ (Lit.int k x).wf = true
def RBool : World → List Value → Bool → Prop := fun _ cs x => cs = [.bool x]
def RStr : World → List Value → ByteArray → Prop := fun _ cs x => cs = [.string x] ∧ x.size ≤ maxLen
def RPair {α β : Type} (R : World → List Value → α → Prop) (S : World → List Value → β → Prop) : World → List Value → α × β → Prop :=
  fun w cs x => ∃ c1 c2, cs = c1 ++ c2 ∧ R w c1 x.1 ∧ S w c2 x.2
def RSlc {α : Type} (R : World → List Value → α → Prop) (sz : Nat) : World → List Value → List α → Prop := fun w cs l => ∃ a n c, cs = [.slice a n c] ∧ RSl R sz w a n c l

/-- What is read of a type's cells bears out 'R'. -/
def Opens {H : Type} (enc : TypeId × Value → H) (P : Program) (w : World) (t : TypeId) {α : Type} (R : World → List Value → α → Prop) : Prop :=
  ∀ (spare : Nat → Bool) fuel cs x, DataW.trod enc P w 0 spare true fuel t cs = some x → ∃ v : α, R w cs v

section
variable {H : Type} {enc : TypeId × Value → H} {P : Program} {w : World}
theorem opens_int {t : TypeId} {k : IntKind} (ht : P.underlying t = some (.int k)) : Opens enc P w t (RInt k) := by
  intro spare fuel cs x h
  obtain ⟨n, h1, _, h3⟩ := DataW.trod_int ht h
  exact ⟨n, h1, h3⟩
theorem opens_str {t : TypeId} (ht : P.underlying t = some .string) : Opens enc P w t RStr := by
  intro spare fuel cs x h
  obtain ⟨s, h1, h2, h3⟩ := DataW.trod_string ht h
  exact ⟨s, h1, h3⟩
theorem opens_bool {t : TypeId} (ht : P.underlying t = some .bool) : Opens enc P w t RBool := by
  intro spare fuel cs x h
  obtain ⟨b, h1, h2⟩ := DataW.trod_bool ht h
  exact ⟨b, h1⟩
theorem opens_slice {t e : TypeId} {sz : Nat} {α : Type} {R : World → List Value → α → Prop} (ht : P.underlying t = some (.slice e)) (hsz : P.cellsOf e = sz) (hpos : 0 < sz) (hR : Opens enc P w e R) : Opens enc P w t (RSlc R sz) := by
  intro spare fuel cs x h
  rcases Deep.open_slice ht h with ⟨rfl, _⟩ | ⟨a, len, cap, m, n, D, Pl, rfl, hb, hl, hm, hmm, _, hx⟩
  · exact ⟨[], none, 0, 0, rfl, ⟨⟨rfl, Nat.le_refl _, Nat.zero_le _, fun _ => ⟨rfl, rfl⟩⟩, .inl rfl⟩⟩
  · have hle : len ≤ m := by subst hmm; split <;> omega
    have hv : ∀ i, i < len → ∃ v : α, ∃ cs', w.cells? 0 (a.add (i * P.cellsOf e)) (P.cellsOf e) = some cs' ∧ R w cs' v := fun i hi => by
      obtain ⟨cs', h1, h2⟩ := hx i (by omega)
      obtain ⟨v, hv⟩ := hR spare n cs' _ h2
      exact ⟨v, cs', h1, hv⟩
    by_cases h0 : len = 0
    · subst h0
      exact ⟨[], _, 0, cap, rfl, ⟨⟨rfl, Nat.zero_le _, hm, fun h => by cases h⟩, .inl rfl⟩⟩
    · obtain ⟨v0, cs0, hc0, _⟩ := hv 0 (by omega)
      have hlt := World.cells?_block hc0 (by omega)
      have hsp := (World.cells?_some hc0).2
      have hspot : a.spot = none := by
        obtain ⟨c0, hc⟩ : ∃ c0, cs0[0]? = some c0 := by
          rw [List.getElem?_eq_getElem (by rw [hsp.1]; omega)]; exact ⟨_, rfl⟩
        have := hsp.2 0 (by omega)
        rw [hc] at this
        have := World.cell?_spot this
        simpa [Addr.add] using this
      obtain ⟨b, off, spot⟩ := a
      simp only at hspot
      subst hspot
      let f : (i : Nat) → i < len → α := fun i hi => Classical.choose (hv i hi)
      have hf : ∀ i hi, ∃ cs', w.cells? 0 ((⟨b, off, none⟩ : Addr).add (i * P.cellsOf e)) (P.cellsOf e) = some cs' ∧ R w cs' (f i hi) := fun i hi => Classical.choose_spec (hv i hi)
      refine ⟨List.ofFn (fun i : Fin len => f i.1 i.2), _, len, cap, rfl, ⟨by simp, hl, hm, fun h => by cases h⟩, .inr ⟨b, off, rfl, by simpa [add_zero_off] using hlt, fun i hi => ?_⟩⟩
      obtain ⟨cs', h1, h2⟩ := hf i (by simpa using hi)
      obtain ⟨_, h3, h4⟩ := World.cells?_some h1
      refine ⟨cs', by rw [h3, hsz], fun j u hu => ?_, by simpa using h2⟩
      have hj : j < cs'.length := (List.getElem?_eq_some_iff.1 hu).1
      have := h4 j (by omega)
      rw [add_zero_off, add_zero_off, hsz, hu] at this
      exact this
/-- Fields of a struct, one behind the other from the cell 'off' on. -/
def OpensFs {H : Type} (enc : TypeId × Value → H) (P : Program) (w : World) (fs : List Field) (off total : Nat) {α : Type} (R : World → List Value → α → Prop) : Prop :=
  ∀ (spare : Nat → Bool) fuel (cs : List Value), cs.length = off + total → (∀ (i : Nat) (f : Field), fs[i]? = some f → ∃ x, DataW.trod enc P w 0 spare true fuel f.type ((cs.drop f.offset).take (P.cellsOf f.type)) = some x) → ∃ v : α, R w (cs.drop off) v
theorem OpensFs.one {f : Field} {off total : Nat} {α : Type} {R : World → List Value → α → Prop} (h1 : f.offset = off) (h2 : P.cellsOf f.type = total) (h : Opens enc P w f.type R) : OpensFs enc P w [f] off total R := by
  intro spare fuel cs hl hf
  obtain ⟨x, hx⟩ := hf 0 f rfl
  rw [h1, h2, List.take_of_length_le (by rw [List.length_drop]; omega)] at hx
  exact h spare fuel _ x hx
theorem OpensFs.cons {f : Field} {fs : List Field} {off sz total : Nat} {α β : Type} {R : World → List Value → α → Prop} {S : World → List Value → β → Prop} (h1 : f.offset = off) (h2 : P.cellsOf f.type = sz)
    (h : Opens enc P w f.type R) (hs : OpensFs enc P w fs (off + sz) total S) : OpensFs enc P w (f :: fs) off (sz + total) (RPair R S) := by
  intro spare fuel cs hl hf
  obtain ⟨x, hx⟩ := hf 0 f rfl
  rw [h1, h2] at hx
  obtain ⟨v, hv⟩ := h spare fuel _ x hx
  obtain ⟨u, hu⟩ := hs spare fuel cs (by omega) (fun i f hi => hf (i + 1) f (by simpa using hi))
  exact ⟨(v, u), _, _, by rw [← List.drop_drop, List.take_append_drop], hv, hu⟩
theorem opens_struct {t : TypeId} {fs : Array Field} {total : Nat} {α : Type} {R : World → List Value → α → Prop} (ht : P.underlying t = some (.struct fs)) (hc : P.cellsOf t = total) (h : OpensFs enc P w fs.toList 0 total R) : Opens enc P w t R := by
  intro spare fuel cs x hx
  obtain ⟨xs, n, _, _, hl, hlen, hf⟩ := DataW.trod_struct ht hx
  obtain ⟨v, hv⟩ := h spare n cs (by omega) (fun i f hi => by
    have hi' : fs[i]? = some f := by simpa using hi
    have hlt : i < fs.size := (Array.getElem?_eq_some_iff.1 hi').1
    exact ⟨_, (hf i f hi').trans (List.getElem?_eq_getElem (by omega))⟩)
  exact ⟨v, hv⟩
end

theorem flatMap_get {α : Type} {f : α → List Value} {sz : Nat} (hf : ∀ x, (f x).length = sz) (l : List α) : ∀ q r, r < sz → (l.flatMap f)[q * sz + r]? = (l[q]?).bind fun x => (f x)[r]? := by
  induction l with
  | nil => intro q r _; simp
  | cons x l ih =>
    intro q r hr
    rw [List.flatMap_cons]
    cases q with
    | zero => rw [List.getElem?_append_left (by rw [hf]; omega)]; simp
    | succ q =>
      rw [List.getElem?_append_right (by rw [hf, Nat.succ_mul]; omega), hf, show (q + 1) * sz + r - sz = q * sz + r from by rw [Nat.succ_mul]; omega, ih q r hr]
      simp
theorem flatMap_len {α : Type} {f : α → List Value} {sz : Nat} (hf : ∀ x, (f x).length = sz) (l : List α) : (l.flatMap f).length = l.length * sz := by
  induction l with
  | nil => simp
  | cons x l ih => rw [List.flatMap_cons, List.length_append, hf, ih, List.length_cons, Nat.succ_mul]; omega
theorem RSl.flat {α : Type} {R : World → List Value → α → Prop} {sz : Nat} {w : World} {a : Option Addr} {n c : Nat} {l : List α} (f : α → List Value) (hf : ∀ x, (f x).length = sz) (hsz : 0 < sz) (hR : ∀ w cs x, R w cs x → cs = f x) (h : RSl R sz w a n c l) : Rd w sz a n c (l.flatMap f) := by
  obtain ⟨⟨h1, h2, h3, h4⟩, h5⟩ := h
  refine ⟨⟨by rw [flatMap_len hf, h1], h2, h3, h4⟩, ?_⟩
  rcases h5 with h5 | ⟨b, off, rfl, hb, hc⟩
  · exact .inl h5
  · refine .inr ⟨b, off, rfl, hb, fun j u hu => ?_⟩
    have hj : j = j / sz * sz + j % sz := by rw [Nat.mul_comm]; exact (Nat.div_add_mod j sz).symm
    have hlt : j < (l.flatMap f).length := (List.getElem?_eq_some_iff.1 hu).1
    rw [flatMap_len hf] at hlt
    have hq : j / sz < l.length := Nat.div_lt_of_lt_mul (by rw [Nat.mul_comm]; exact hlt)
    obtain ⟨cs, _, hcell, hr⟩ := hc (j / sz) hq
    have e := hR _ _ _ hr
    subst e
    have hj' := hj
    rw [hj, flatMap_get hf l _ _ (Nat.mod_lt _ hsz), List.getElem?_eq_getElem hq] at hu
    have := hcell (j % sz) u hu
    rw [Nat.add_assoc, ← hj] at this
    exact this
theorem RSl.all {α : Type} {R : World → List Value → α → Prop} {sz : Nat} {w : World} {a : Option Addr} {n c : Nat} {l : List α} {Q : α → Prop} (hR : ∀ cs x, R w cs x → Q x) (h : RSl R sz w a n c l) : ∀ x ∈ l, Q x := by
  intro x hx
  obtain ⟨⟨h1, _⟩, h5⟩ := h
  obtain ⟨i, hi, rfl⟩ := List.mem_iff_getElem.1 hx
  rcases h5 with h5 | ⟨b, off, rfl, hb, hc⟩
  · omega
  · obtain ⟨cs, _, _, hr⟩ := hc i hi
    exact hR _ _ hr

theorem bcell {W w1 : World} {B : Nat} (hb : Below B W w1) : (∀ b o, b < B → w1.cell? ⟨b, o, none⟩ = W.cell? ⟨b, o, none⟩) ∧ (∀ b o, b < B → w1.frozen? ⟨b, o, none⟩ = W.frozen? ⟨b, o, none⟩) :=
  ⟨fun b o h => hb.cell (p := ⟨b, o, none⟩) h, fun b o h => hb.frozen (p := ⟨b, o, none⟩) h⟩
theorem belS {w a b : World} (h : Below w.heap.size w a) (k : Below a.heap.size a b) : Below w.heap.size w b := h.trans (k.mono h.size)

theorem belN {B : Nat} {a w : World} (h : Below B a w) (n : Nat) : Below B a (w.drewN n) := ⟨h.os, h.tape, h.output, h.size, h.block⟩
theorem wf_i64_bounds {x : Int} (h : (Lit.int .i64 x).wf = true) : -9223372036854775808 ≤ x ∧ x ≤ 9223372036854775807 := by
  simp [Lit.wf, IntKind.min, IntKind.max, IntKind.bits, IntKind.signed] at h
  omega
theorem wf_u64_bounds {x : Int} (h : (Lit.int .u64 x).wf = true) : 0 ≤ x ∧ x < 18446744073709551616 := by
  simp [Lit.wf, IntKind.min, IntKind.max, IntKind.bits, IntKind.signed] at h
  omega
theorem wf_u8_bounds {x : Int} (h : (Lit.int .u8 x).wf = true) : 0 ≤ x ∧ x < 256 := by
  simp [Lit.wf, IntKind.min, IntKind.max, IntKind.bits, IntKind.signed] at h
  omega
/-- The bytes of a string, as a list. -/
def bL (s : ByteArray) : List UInt8 := s.data.toList
theorem bL_len (s : ByteArray) : (bL s).length = s.size := by simp [bL]
theorem bL_ext {s t : ByteArray} (h : bL s = bL t) : s = t := by
  cases s; cases t; simp only [bL] at h; rw [Array.toList_inj.1 h]
theorem bL_append (s t : ByteArray) : bL (s ++ t) = bL s ++ bL t := by simp [bL]
theorem bL_extract (s : ByteArray) (i j : Nat) : bL (s.extract i j) = ((bL s).take j).drop i := by simp [bL, List.drop_take]
theorem bL_strOfNums (l : List Int) : bL (strOfNums l) = l.map fun n => UInt8.ofNat n.toNat := rfl
/-- The bytes of a string, as numbers. -/
def bI (s : ByteArray) : List Int := (bL s).map fun c => (c.toNat : Int)
theorem bI_len (s : ByteArray) : (bI s).length = s.size := by simp [bI, bL_len]
theorem bL_get (s : ByteArray) (k : Nat) (h : k < s.size) : (bL s)[k]? = some s[k] := by
  have hl : k < s.data.toList.length := by simpa using h
  rw [bL, List.getElem?_eq_getElem hl]; rfl
theorem bI_get (s : ByteArray) (k : Nat) (h : k < s.size) : (bI s)[k]? = some (s[k].toNat : Int) := by
  rw [bI, List.getElem?_map, bL_get s k h]; rfl
theorem bI_extract (s : ByteArray) (i j : Nat) : bI (s.extract i j) = ((bI s).take j).drop i := by
  rw [bI, bL_extract, List.map_drop, List.map_take]; rfl
theorem bI_append (s t : ByteArray) : bI (s ++ t) = bI s ++ bI t := by rw [bI, bL_append, List.map_append]; rfl
/-- '[]byte(s)'. -/
theorem wpList_str_bytes {P : Program} {w : World} {ops : Array Oper} {rest : List Oper} {o : Oper} {a : Act} {Q : Exit → Act → World → Prop} {t e d : TypeId}
    (hs : P.underlying t = some (.slice e)) (he : P.underlying e = some (.int .u8)) (hd : P.underlying d = some .string) (hgd : o.guard = none) (x : Operand) (ho : o.op = .convert d t x)
    {s : ByteArray} (hx : a.eval x = .string s) (hz : s.size ≤ maxLen)
    (h : ∀ c w', Rd w' 1 (some ⟨w.heap.size, 0, none⟩) s.size c ((bI s).map (Value.int .u8)) → Below w.heap.size w w' → w.heap.size < w'.heap.size → wpList P ops Q rest (a.put o.dst (.slice (some ⟨w.heap.size, 0, none⟩) s.size c)) w') : wpList P ops Q (o :: rest) a w := by
  have hrun := Lib.run_convert_string_bytes (P := P) w d t e s hd hs he
  refine wpList_plain hgd fun K hK => ?_
  unfold Oper.wp
  simp [execOp, ho, hx, hrun, Result.andThen]
  refine hK _ _ (h _ _ ⟨⟨by simp [bI_len], grownCap_ge _ _ _ _, grownCap_le_maxLen _ _ _ _ hz, fun h => by cases h⟩, .inr ⟨_, 0, rfl, by rw [Lib.bytesWorld_size]; omega, fun j u hu => ?_⟩⟩ ⟨rfl, rfl, rfl, by rw [Lib.bytesWorld_size]; omega, fun k hk => Lib.bytesWorld_at_old _ _ _ _ hk⟩ (by rw [Lib.bytesWorld_size]; omega))
  have hj : j < s.size := by
    have := (List.getElem?_eq_some_iff.1 hu).1
    simpa [bI_len] using this
  rw [Nat.zero_add, Lib.bytesWorld_cell _ _ _ _ hj, ← hu]
  have hl : j < s.data.toList.length := by simpa using hj
  simp [bI, bL, List.getElem?_eq_getElem hl, List.getD_eq_getElem?_getD]
/-- 'make([]T, 0, n)', T of one cell: the block as it lies. -/
theorem wpList_mkx {P : Program} {w : World} {ops : Array Oper} {rest : List Oper} {o : Oper} {a : Act} {Q : Exit → Act → World → Prop} {t e : TypeId} {z : Value} {bytes : Nat} (E : Elt P t e z 1 bytes) (hz1 : z.cells = #[z])
    (hg : o.guard = none) (l c : Operand) (hop : o.op = Op.makeSlice t l c) (n : Nat) {C : Int} (hl : a.eval l = .int .i64 0) (hc : a.eval c = .int .i64 C) (hC : C = (n : Int)) (b2 : bytes * n ≤ 281474976710656) (b3 : n ≤ maxLen)
    (hK : wpList P ops Q rest (a.put o.dst (.slice (some ⟨w.heap.size, 0, none⟩) 0 n)) (w.alloc (.cells (List.replicate n z).toArray e))) : wpList P ops Q (o :: rest) a w := by
  obtain ⟨i, hi, hz0, hz, hb⟩ := info_parts E.info
  subst hC
  have hm : (n : Int) ≤ 9223372036854775807 := by unfold maxLen at b3; omega
  have hb2 : (i.bytes : Int) * n ≤ 281474976710656 := by
    have h : ((i.bytes * n : Nat) : Int) ≤ 281474976710656 := by rw [hb]; omega
    rwa [Int.natCast_mul] at h
  have hrun := run_make (P := P) w t e i z E.ty hi hz0 .i64 .i64 0 n (by omega) (by omega) hb2 hm
  rw [hz, hz1, Nat.mul_one, Int.toNat_natCast] at hrun
  have he : madeCells #[z] n = (List.replicate n z).toArray := by rw [← toList_madeCells_one]
  rw [he] at hrun
  refine wpList_plain hg fun K hK' => ?_
  unfold Oper.wp
  simp [execOp, hop, hl, hc, hrun, Result.andThen]
  exact hK' _ _ (by simpa using hK)

/-- 'append(v, x...)' where there is room: the block as it lies behind. -/
theorem wpList_append_room {P : Program} {w : World} {ops : Array Oper} {rest : List Oper} {o : Oper} {a : Act} {Q : Exit → Act → World → Prop} {t e : TypeId} {z : Value} {bytes : Nat} (E : Elt P t e z 1 bytes) (hgd : o.guard = none) (s x : Operand)
    (ho : o.op = .call { callee := .builtin .append, args := #[s, x], argTypes := #[t, t] })
    {g n cap : Nat} {cur : Array Value} (hg : w.heap[g]? = some (.cells cur e (0, 0))) (hs : a.eval s = .slice (some ⟨g, 0, none⟩) n cap) (hcap : cur.size = cap) (hcm : cap ≤ maxLen)
    {xa : Option Addr} {m c : Nat} {news : List Value} (hr : Rd w 1 xa m c news) (hx : a.eval x = .slice xa m c) (h1 : ∀ u ∈ news, u.oneCell' = true) (hroom : n + m ≤ cap)
    (h : ∀ w', w'.heap[g]? = some (.cells (cur.toList.take n ++ news ++ cur.toList.drop (n + m)).toArray e (0, 0)) → w.grownBy w' (some g) → wpList P ops Q rest (a.put o.dst (.slice (some ⟨g, 0, none⟩) (n + m) cap)) w') : wpList P ops Q (o :: rest) a w := by
  obtain ⟨i, hi, hz0, hz1, hz2⟩ := info_parts E.info
  have hgr : ∀ cs, w.grownBy (w.setRow g cs) (some g) := fun cs => ⟨rfl, rfl, rfl, by simp, fun k _ hk => setRow_other w g k cs (fun e => hk (by rw [e]))⟩
  have hl : news.length = m := by simpa using hr.length_eq
  have hcase : (xa = none ∧ m = 0 ∧ c = 0) ∨ ∃ ad, xa = some ad ∧ (∀ j u, news[j]? = some u → w.cell? (ad.add j) = some u) := by
    rcases hr with ⟨⟨hl', _, _, hnil⟩, rfl | ⟨b, off, rfl, _, hc⟩⟩
    · cases xa with
      | none => exact .inl ⟨rfl, rfl, (hnil rfl).2⟩
      | some ad => exact .inr ⟨ad, rfl, fun j u hu => by have : news = [] := List.eq_nil_of_length_eq_zero (by simpa using hl'); subst this; simp at hu⟩
    · exact .inr ⟨_, rfl, fun j u hu => by rw [add_zero_off]; exact hc j u hu⟩
  rcases hcase with ⟨rfl, rfl, rfl⟩ | ⟨ad, rfl, hnews⟩
  · have hn : news = [] := List.eq_nil_of_length_eq_zero hl
    subst hn
    have hrun : (Builtin.append_ #[t, t] o.type #[.slice (some ⟨g, 0, none⟩) n cap, .slice none 0 0]).run P w = .ok (.slice (some ⟨g, 0, none⟩) n cap) w :=
      run_append_owned_none (P := P) w 0 t o.type e i 1 E.ty hi (.slice (some ⟨g, 0, none⟩) n cap) n (cur.toList.take n) ⟨by simp; omega, .inr ⟨g, cap, cur, rfl, Nat.zero_le _, hg, by omega, hcm, by omega, by rw [Nat.mul_one]⟩⟩
    refine wpList_plain hgd fun K hK => ?_
    unfold Oper.wp
    simp [execOp, ho, resolve, invoke, builtin, hs, hx, hrun, Result.andThen]
    exact hK _ _ (by simpa using h w (by simpa using hg) ⟨rfl, rfl, rfl, Nat.le_refl _, fun _ _ _ => rfl⟩)
  · have hrun := run_append_room (P := P) w t o.type e i E.ty hi g n cap cur hg ad m c news (by rw [hz1, Nat.mul_one]; exact hl) hnews h1 hroom (by rw [hz1]; omega)
    rw [hz1, Nat.mul_one, hl] at hrun
    refine wpList_plain hgd fun K hK => ?_
    unfold Oper.wp
    simp [execOp, ho, resolve, invoke, builtin, hs, hx, hrun, Result.andThen]
    exact hK _ _ (by simpa using h _ (setRow_heap w g cur _ e (0, 0) hg) (hgr _))
theorem Rd.block {w : World} {g n c : Nat} {cs : Array Value} {e : TypeId} {mk : Nat × Nat} {xs : List Value} (hg : w.heap[g]? = some (.cells cs e mk)) (hn : n ≤ cs.size) (hc : n ≤ c) (hm : c ≤ maxLen) (hx : cs.toList.take n = xs) : Rd w 1 (some ⟨g, 0, none⟩) n c xs := by
  subst hx
  refine ⟨⟨by simp; omega, hc, hm, fun h => by cases h⟩, .inr ⟨g, 0, rfl, (Array.getElem?_eq_some_iff.1 hg).1, fun j u hu => ?_⟩⟩
  rw [List.getElem?_take] at hu
  split at hu
  · rw [cell_of_row w g (0 + j) cs e mk hg, Nat.zero_add]; simpa using hu
  · cases hu
/-- The run of 'string(b)'. -/
theorem run_bytes_str {P : Program} {w : World} {t e d : TypeId}
    (hs : P.underlying t = some (.slice e)) (he : P.underlying e = some (.int .u8)) (hd : P.underlying d = some .string)
    {xa : Option Addr} {m c : Nat} {l : List Int} (hr : Rd w 1 xa m c (l.map (Value.int .u8))) : (convert t d (.slice xa m c)).run P w = .ok (.string (strOfNums l)) w := by
  rcases hr with ⟨⟨hl, _, _, _⟩, rfl | ⟨b, off, rfl, _, hc⟩⟩
  · have hn : l = [] := List.eq_nil_of_length_eq_zero (by simpa using hl)
    subst hn
    cases xa with
    | none => exact run_convert_bytes_nil w t e hs he 0 c d hd
    | some ad => rw [run_convert_bytes_string w t d e _ 0 c hs he hd, run_bytesToString w ad 0 c [] (by simpa using run_loadCells_list (P := P) w ad [] (fun j v hj => by simp at hj))]; rfl
  · refine run_convert_bytes_arg w t e hs he b off m c l (by simpa using hl) (fun i hi => ?_) d hd
    have hl' : l.length = m := by simpa using hl
    rw [hc i (.int .u8 (l.getD i 0)) (by rw [List.getElem?_map, List.getD_eq_getElem?_getD, List.getElem?_eq_getElem (by omega)]; rfl)]
theorem RSl.ints {w : World} {k : IntKind} {a : Option Addr} {n c : Nat} {l : List Int} (h : RSl (RInt k) 1 w a n c l) : Rd w 1 a n c (l.map (Value.int k)) := by
  have := h.flat (fun x => [Value.int k x]) (fun _ => rfl) (by decide) (fun w cs x hx => hx.1)
  rwa [← List.map_eq_flatMap] at this
theorem RSl.intsWf {w : World} {k : IntKind} {a : Option Addr} {n c : Nat} {l : List Int} (h : RSl (RInt k) 1 w a n c l) : ∀ x ∈ l, (Lit.int k x).wf = true :=
  h.all (Q := fun x => (Lit.int k x).wf = true) (fun cs x hx => hx.2)
theorem qS {P : Program} {f : FuncId} {args : Array Value} {w : World} {n : Nat} {v : Value}
    (h : Calls P f args (w.drewN n) fun e w' => e = .returned v ∧ w.drewN n = w') : Calls P f args (w.drewN n) fun e w'' => e = .returned v ∧ ∃ m, w'' = w.drewN m :=
  h.mono fun _ _ ⟨he, hm⟩ => ⟨he, n, hm.symm⟩
theorem own_mono {w : World} {base base' : Nat} {e : TypeId} {size : Nat} {v : Value} {n : Nat} {xs : List Value} (h : w.ownsRow base' e size v n xs) (hb : base ≤ base') : w.ownsRow base e size v n xs := by
  obtain ⟨h1, h2⟩ := h
  refine ⟨h1, ?_⟩
  rcases h2 with h2 | ⟨g, cap, cur, hv, hg, r⟩
  · exact .inl h2
  · exact .inr ⟨g, cap, cur, hv, by omega, r⟩
theorem ret_int {k : IntKind} {a b : Int} (h : a = b) : Ending.returned (.int k a) = .returned (.int k b) := by rw [h]
theorem ret_bool {a b : Bool} (h : a = b) : Ending.returned (.bool a) = .returned (.bool b) := by rw [h]
theorem ret_str {a b : ByteArray} (h : a = b) : Ending.returned (.string a) = .returned (.string b) := by rw [h]
end Go.Proofs.YtpkknhhohbobaaaGreatDoor
