/- the net: the walk of Turn -/
import Derived.Test.YtmlkmonapnebiaaDoorRNetF
import Derived.Laws.Strings
namespace Go.Proofs.YtmlkmonapnebiaaDoorR
open Go.RowKit Go.Sort

theorem wpList_str_row {P : Program} {w : World} {ops : Array Oper} {rest : List Oper} {o : Oper} {a : Act} {Q : Exit → Act → World → Prop} {t e d : TypeId}
    (hs : P.underlying t = some (.slice e)) (he : P.underlying e = some (.int .u8)) (hd : P.underlying d = some .string) (hgd : o.guard = none) (x : Operand) (ho : o.op = .convert d t x)
    {s : ByteArray} (hx : a.eval x = .string s) (hz : s.size ≤ maxLen)
    (h : ∀ c w', Rd w' 1 (some ⟨w.heap.size, 0, none⟩) s.size c ((bI s).map (Value.int .u8)) → (∀ j, j < s.size → w'.frozen? ⟨w.heap.size, j, none⟩ = false) → Below w.heap.size w w' → w.heap.size < w'.heap.size → wpList P ops Q rest (a.put o.dst (.slice (some ⟨w.heap.size, 0, none⟩) s.size c)) w') : wpList P ops Q (o :: rest) a w := by
  have hrun := Lib.run_convert_string_bytes (P := P) w d t e s hd hs he
  refine wpList_plain hgd fun K hK => ?_
  unfold Oper.wp
  simp [execOp, ho, hx, hrun, Result.andThen]
  refine hK _ _ (h _ _ ⟨⟨by simp [bI_len], grownCap_ge _ _ _ _, grownCap_le_maxLen _ _ _ _ hz, fun h => by cases h⟩, .inr ⟨_, 0, rfl, by rw [Lib.bytesWorld_size]; omega, fun j u hu => ?_⟩⟩ (fun j hj => ?_) ⟨rfl, rfl, rfl, by rw [Lib.bytesWorld_size]; omega, fun k hk => Lib.bytesWorld_at_old _ _ _ _ hk⟩ (by rw [Lib.bytesWorld_size]; omega))
  · have hj : j < s.size := by
      have := (List.getElem?_eq_some_iff.1 hu).1
      simpa [bI_len] using this
    rw [Nat.zero_add, Lib.bytesWorld_cell _ _ _ _ hj, ← hu]
    have hl : j < s.data.toList.length := by simpa using hj
    simp [bI, bL, List.getElem?_eq_getElem hl, List.getD_eq_getElem?_getD]
  · have hc := Lib.bytesWorld_cell w e s j hj
    unfold World.cell? at hc
    rw [Lib.bytesWorld_at_new] at hc
    simp only at hc
    have hjs : j < (Lib.bytesCells w e s).size := by
      rcases Nat.lt_or_ge j (Lib.bytesCells w e s).size with h | h
      · exact h
      · simp [Array.getElem?_eq_none_iff.2 h] at hc
    unfold World.frozen?
    rw [Lib.bytesWorld_at_new]
    simp
    omega
theorem Rd.setCell {w : World} {b off n c : Nat} {xs : List Value} (h : Rd w 1 (some ⟨b, off, none⟩) n c xs) (j : Nat) (hj : j < n) (v : Value) : Rd (w.setCell ⟨b, off + j, none⟩ v) 1 (some ⟨b, off, none⟩) n c (xs.set j v) := by
  refine ⟨⟨by rw [List.length_set]; exact h.1.1, h.1.2⟩, ?_⟩
  rcases h.2 with h0 | ⟨b', off', he, hlt, hc⟩
  · omega
  · simp only [Option.some.injEq, Addr.mk.injEq, and_true] at he
    obtain ⟨rfl, rfl⟩ := he
    refine .inr ⟨_, _, rfl, by simpa [World.setCell] using hlt, fun i u hu => ?_⟩
    by_cases e : i = j
    · subst e
      have hl := h.length_eq
      rw [List.getElem?_set_self (by omega)] at hu
      cases hu
      exact World.cell?_setCell_same _ _ _ (h.cells i (by omega))
    · rw [List.getElem?_set_ne (fun e' => e e'.symm)] at hu
      rw [World.cell?_setCell_other _ _ _ _ (fun e' => e (by simp only [Addr.mk.injEq, and_true, true_and] at e'; omega))]
      exact hc i u hu
section
variable {B : Nat} {w w1 w' : World} {O : Nat → Prop} {b : Nat} {s t : NS} {v : Value}
theorem flat_setD (S : ByteArray) : ∀ (m : List Dg) (i : Nat) (hi : i < m.length), ((m.flatMap dgF).set (i * 4 + 2) (.string S)).set (i * 4 + 3) (.bool true) = (m.set i { m[i] with data := S, torn := true }).flatMap dgF := by
  intro m
  induction m with
  | nil => intro i h; simp at h
  | cons v m ih =>
    intro i h
    cases i with
    | zero => rfl
    | succ i =>
      have := ih i (by simpa using h)
      simp only [List.flatMap_cons, List.set_cons_succ, List.getElem_cons_succ]
      rw [← this]
      have e : ∀ (xs : List Value) (j : Nat) (u : Value), (dgF v ++ xs).set ((i + 1) * 4 + j) u = dgF v ++ xs.set (i * 4 + j) u := fun xs j u => by
        rw [List.set_append_right _ _ (by rw [dgF_len]; omega), dgF_len]
        congr 2
        omega
      rw [e, e]
def Dg.turned (d : Dg) (S : ByteArray) : Dg := { d with data := S, torn := true }
def NS.turned (s : NS) (k : Nat) (S : ByteArray) : NS := { s with l := s.l.set k ((s.l.getD k .zero).turned S) }
theorem NetAt.turned {g n c : Nat} (h : NetAt B w O b s (.slice (some ⟨g, 0, none⟩) n c)) (k : Nat) (hk : k < s.l.length) (S : ByteArray) :
    NetAt B ((w.setCell ⟨g, k * 4 + 2, none⟩ (.string S)).setCell ⟨g, k * 4 + 3, none⟩ (.bool true)) O b (s.turned k S) (.slice (some ⟨g, 0, none⟩) n c) ∧ Kp g w ((w.setCell ⟨g, k * 4 + 2, none⟩ (.string S)).setCell ⟨g, k * 4 + 3, none⟩ (.bool true)) := by
  have hk2 : Kp g w ((w.setCell ⟨g, k * 4 + 2, none⟩ (.string S)).setCell ⟨g, k * 4 + 3, none⟩ (.bool true)) := ((Kp.refl g w).setCell _ rfl _).setCell _ rfl _
  have hgb : b ≠ g := fun e => h.nb (by rw [e]; rfl)
  obtain ⟨a', c', he, _⟩ := h.sl
  simp only [Value.slice.injEq] at he
  obtain ⟨_, hn, _⟩ := he
  have hrow := h.row
  rw [← hn] at hrow
  have hrow2 := ((hrow.stored (k * 4 + 2) (.string S)).1.stored (k * 4 + 3) (.bool true)).1
  rw [flat_setD S s.l k hk] at hrow2
  have hgd : s.l.getD k .zero = s.l[k] := by rw [List.getD_eq_getElem?_getD, List.getElem?_eq_getElem hk]; rfl
  have hT : s.turned k S = { s with l := s.l.set k { s.l[k] with data := S, torn := true } } := by rw [NS.turned, hgd]; rfl
  rw [hT]
  refine ⟨⟨hk2.blk h.blk hgb, ?_, h.own, h.nb, h.ob, h.lo, fun g' hg => Nat.lt_of_lt_of_le (h.hi g' hg) hk2.size⟩, hk2⟩
  show World.ownsRow _ _ _ _ _ (s.l.set k _).length _
  rw [List.length_set, ← hn]
  exact hrow2
def turnJ (d : Dg) (at_ : Int) : Nat := ((IntKind.u64.wrap at_).tmod (d.data.size : Int)).toNat
def turnS (d : Dg) (at_ mask : Int) : ByteArray := strOfNums ((bI d.data).set (turnJ d at_) (bits BinOp.xor IntKind.u8 ((bI d.data).getD (turnJ d at_) 0) mask))
theorem turnJ_lt {d : Dg} (at_ : Int) (h : 0 < d.data.size) : (IntKind.u64.wrap at_).tmod (d.data.size : Int) = (turnJ d at_ : Nat) ∧ turnJ d at_ < d.data.size := by
  have h0 : 0 ≤ IntKind.u64.wrap at_ := by rw [IntKind.wrap_u64]; omega
  rw [turnJ, Int.tmod_eq_emod_of_nonneg h0]
  have := Int.emod_nonneg (IntKind.u64.wrap at_) (b := (d.data.size : Int)) (by omega)
  have := Int.emod_lt_of_pos (IntKind.u64.wrap at_) (b := (d.data.size : Int)) (by omega)
  omega
theorem rd_drew {w : World} {size n c : Nat} {a : Option Addr} {xs : List Value} (h : Rd w size a n c xs) : Rd w.drew size a n c xs := h
set_option maxHeartbeats 3200000 in
set_option maxRecDepth 100000 in
theorem turn_yes (k : Nat) (at_ mask : Int) (hs : s.Ok) (h : NetAt B w O b s v) (hk : k < s.l.length) (ht : s.l[k].torn = false) (hd : 0 < s.l[k].data.size) (hz : s.l[k].data.size ≤ maxLen) (hm : mask ≠ 0) :
    Calls Tryd.prog 22 #[.pointer (some ⟨b, 0, none⟩), .int .i64 k, .int .i64 at_, .int .u8 mask] w fun e w' => e = .returned (.bool true) ∧ NetTo B w O b (s.turned k (turnS s.l[k] at_ mask)) w' := by
  have HAt := at_any k h
  have hth : s.there k = true := by unfold NS.there; exact decide_eq_true (by omega)
  have HA := Lib.hid (show s.at k = (s.l[k], true) from by rw [NS.at, if_pos hth, Int.toNat_natCast, List.getD_eq_getElem?_getD, List.getElem?_eq_getElem hk]; rfl)
  rw [HA.out] at HAt
  unfold dgV at HAt
  simp only at HAt
  rw [ht] at HAt
  replace HAt := Lib.hid HAt
  obtain ⟨hJ, hJl⟩ := turnJ_lt at_ hd
  have hwr : IntKind.u64.wrap (s.l[k].data.size : Int) = s.l[k].data.size := by rw [IntKind.wrap_u64]; unfold maxLen at hz; omega
  have hTS := Lib.hid (show turnS s.l[k] at_ mask = strOfNums ((bI s.l[k].data).set (turnJ s.l[k] at_) (bits BinOp.xor IntKind.u8 ((bI s.l[k].data).getD (turnJ s.l[k] at_) 0) mask)) from rfl)
  have hkI : (k : Int) < s.l.length := by omega
  generalize turnS s.l[k] at_ mask = S at *
  generalize s.l[k] = d at *
  generalize turnJ d at_ = j at *
  obtain ⟨y, HYY⟩ : ∃ y, Hid ((bI d.data).getD j 0 = y) := ⟨_, Lib.hid rfl⟩
  rw [HYY.out] at hTS
  have hne1 : d.data.toList.isEmpty = false := by
    rw [ByteArray.toList_eq]
    cases hl : d.data.data.toList with
    | nil => have : d.data.data.toList.length = 0 := by rw [hl]; rfl
             have h2 : d.data.size = d.data.data.toList.length := by simp
             omega
    | cons _ _ => rfl
  have hne2 : ¬ d.data.toList = [] := fun e => by rw [e] at hne1; cases hne1
  have hmI : (mask == 0) = false := by rw [beq_eq_false_iff_ne]; exact hm
  have hs0 : ¬ d.data.size = 0 := by omega
  have hs0I : ¬ (d.data.size : Int) = 0 := by omega
  have hJI : (j : Int) < d.data.size := by omega
  clear hth HA ht hm
  go_enter Tryd.func22, Tryd.ntmps22
  go_wp2_with fail
  refine HAt.out.mono ?_
  rintro e w2 ⟨rfl, hb2⟩
  have hZ2 := BlkAt.new w2 35 #[.int .i64 0, .int .i64 0, .string ⟨#[]⟩, .bool false]
  go_wp2_with (first
    | (refine wpList_blk_alloc rfl rfl Tryd.dgZ w2.heap.size rfl ?_)
    | (refine wpList_blk_store (cs := #[.int .i64 d.src, .int .i64 d.dst, .string d.data, .bool false]) rfl (.tmp 9) (.tmp 16) rfl rfl rfl hZ2 Tryd.dgI rfl (by simp [Value.oneCell']) ?_; intro w4 hB4 hK4 hsz4; clear hsz4; obtain ⟨x0, x1, x2, x3⟩ : w4.cell? ⟨w2.heap.size, 0, none⟩ = some (.int .i64 d.src) ∧ w4.cell? ⟨w2.heap.size, 1, none⟩ = some (.int .i64 d.dst) ∧ w4.cell? ⟨w2.heap.size, 2, none⟩ = some (.string d.data) ∧ w4.cell? ⟨w2.heap.size, 3, none⟩ = some (.bool false) := ⟨hB4.cell rfl, hB4.cell rfl, hB4.cell rfl, hB4.cell rfl⟩)
    | (refine wpList_str_row Tryd.underlying61 Tryd.underlying5 Tryd.underlying9 rfl (.tmp 34) rfl rfl hz ?_; intro bc w5 hr5 hf5 hb5 hl5; clear x0 x1 x2 x3; have y5 : w5.cell? ⟨w4.heap.size, j, none⟩ = some (.int .u8 y) := (by rw [← HYY.out]; have := hr5.at (j := j) (u := .int .u8 ((bI d.data).getD j 0)) (by rw [List.getElem?_map, List.getD_eq_getElem?_getD, List.getElem?_eq_getElem (by rw [bI_len]; exact hJl)]; rfl); rwa [Nat.zero_add] at this); have fj := hf5 j hJl))
  have hbw5 : Below w.heap.size w w5 := (hb2.trans ((alloc_store hK4).mono hb2.size)).trans (hb5.mono (Nat.le_trans hb2.size (alloc_store hK4).size))
  have hlo4 : w.heap.size ≤ w4.heap.size := Nat.le_trans hb2.size (alloc_store hK4).size
  have hr6 := hr5.setCell j hJl (.int .u8 (bits BinOp.xor IntKind.u8 y mask))
  rw [Nat.zero_add, ← List.map_set] at hr6
  have hbw6 : Below w.heap.size w (w5.setCell ⟨w4.heap.size, j, none⟩ (.int .u8 (bits BinOp.xor IntKind.u8 y mask))) := hbw5.setCell hlo4 _
  clear hr5 hf5 hb5 hl5 y5 fj hK4 hB4 hZ2 hb2 hbw5 hJ hwr
  generalize bits BinOp.xor IntKind.u8 y mask = z at *
  generalize w5.setCell _ _ = w6 at *
  have hcv : (convert 61 9 (.slice (some ⟨w4.heap.size, 0, none⟩) d.data.size bc)).run Tryd.prog w6.drew = .ok (.string S) w6.drew := by
    rw [hTS.out]
    exact run_bytes_str Tryd.underlying61 Tryd.underlying5 Tryd.underlying9 (rd_drew hr6)
  have h6 := h.below hbw6
  have cv := h6.cv
  have hrow := h6.row
  obtain ⟨ra, rc, rfl, hrr⟩ := h6.sl
  obtain ⟨g, off, rfl, _⟩ := Rd.addr hrr (by omega)
  have hz0 : off = 0 := by
    rcases hrow.2 with ⟨h2, _⟩ | ⟨g', cap', cur, hv, _⟩
    · cases h2
    · simp only [Value.slice.injEq, Option.some.injEq, Addr.mk.injEq, and_true] at hv
      exact hv.1.2
  subst hz0
  obtain ⟨_, _, c2, c3⟩ := hrr.at k hk
  rw [Nat.zero_add] at c2 c3
  have f2 := hrow.frozenAt (k * 4 + 2)
  have f3 := hrow.frozenAt (k * 4 + 3)
  have hgb : g ≠ b := fun e => h6.nb (by rw [e]; rfl)
  have hgb2 : b ≠ g := fun e => hgb e.symm
  have hbd : Below w6.heap.size w6 w6.drew := belN (Below.refl _ _) 1
  have hX := Lib.hid ((h6.below hbd).turned k hk S)
  have hOg := h6.own g rfl
  have hKK := Lib.hid (KpO.ofBelow (O := O) hbw6)
  clear hrow hrr h6 h hTS hr6
  go_region_law (fail)
  all_goals
    go_wp2
    go_ret
    exact ⟨rfl, O, _, hX.out.1, ((hKK.out.trans (KpO.ofBelow hbd) (fun g hg => .inl hg)).trans (KpO.ofKp hX.out.2 hOg) (fun g hg => .inl hg)), fun g hg => .inl hg⟩
end
end Go.Proofs.YtmlkmonapnebiaaDoorR
