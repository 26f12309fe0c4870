/- the horizon: the walks of slices.Clone and Copy -/
import Derived.Test.YtmhckkcppmfjpaaDoorHorN
import Derived.Deep.MidRow
namespace Go.Proofs.YtmhckkcppmfjpaaDoor
open Go.RowKit Go.Sort

theorem pm_one (l : List Pm) : ∀ u ∈ l.flatMap pmF, u.oneCell' = true := by
  intro u hu
  obtain ⟨v, _, hv⟩ := List.mem_flatMap.1 hu
  simp [pmF] at hv
  rcases hv with rfl | rfl <;> rfl
set_option maxHeartbeats 1600000 in
set_option maxRecDepth 100000 in
theorem clone_any (a : Option Addr) (n c : Nat) (l : List Pm) (hn : n ≤ 1000000) (w : World) (hr : RdP w a n c l) :
    Calls Tryd.prog 27 #[.slice a n c] w fun e w' => ∃ v, e = .returned v ∧ w'.ownsRow w.heap.size 56 2 v n (l.flatMap pmF) ∧ Below w.heap.size w w' := by
  have he := fun W => Lib.run_eql_slice_nil (P := Tryd.prog) W 44 56 a n c 0 0 Tryd.underlying44
  cases a with
  | none =>
    obtain ⟨rfl, rfl⟩ := hr.1.2.2.2 rfl
    obtain rfl := List.eq_nil_of_length_eq_zero hr.len
    go_enter Tryd.func27, Tryd.ntmps27
    go_wp2
    go_ret
    exact ⟨_, rfl, World.ownsRow_nil _ _ _ _, Below.refl _ _⟩
  | some ad =>
    have ho := World.ownsRow_made (base := w.heap.size) (e := 56) (size := 2) w #[] 0 (Nat.le_refl _) (Nat.zero_le _) rfl
    have hb : Below w.heap.size w (w.alloc (.cells #[] 56)) := (Below.refl _ _).alloc (Nat.le_refl _) _
    have hr2 := Rd.below hr hb (Nat.le_refl _)
    have h1 := pm_one l
    go_enter Tryd.func27, Tryd.ntmps27
    go_wp2_with (at_builtin; refine wpList_append_rd Tryd.pmE rfl (.tmp 5) (.tmp 6) rfl ho rfl hr2 rfl h1 (by unfold maxLen; omega) (by omega) (by simp) ?_; intro v' w' hown' hg')
    go_ret
    exact ⟨_, rfl, by simpa using hown', hb.grown hg' (by simp) (fun g hg => (ho.lt g hg).1)⟩
def rowsH (s : HS) (vs : Nat → Value) : List Value := (List.range 64).flatMap fun i => mkC (s.l i) (vs i)
theorem rowsH_len (s : HS) (vs : Nat → Value) : (rowsH s vs).length = 256 := (flatMap_len (f := fun i => mkC (s.l i) (vs i)) (sz := 4) (fun _ => rfl) (List.range 64)).trans rfl
theorem HorAt.range {B : Nat} {w : World} {O : Nat → Prop} {b : Nat} {s : HS} {vs : Nat → Value} (h : HorAt B w O b s vs) : w.rangeAt b 2 (rowsH s vs) := by
  intro j v hv
  refine h.blk.cell ?_
  rw [horC, rowC, List.getElem?_toArray, List.getElem?_append_right (by simp [HS.pre])]
  have hv' : ((List.range 64).flatMap fun i => mkC (s.l i) (vs i))[j]? = some v := hv
  simpa [HS.pre] using hv'
theorem rowsH_at (s : HS) (vs : Nat → Value) (i : Nat) (hi : i < 64) : (rowsH s vs).toArray.extract (i * 4) (i * 4 + 4) = (mkC (s.l i) (vs i)).toArray := by
  apply Array.ext_getElem?
  intro j
  rw [Array.getElem?_extract, List.getElem?_toArray, List.getElem?_toArray]
  have hsz : (rowsH s vs).toArray.size = 256 := by rw [List.size_toArray, rowsH_len]
  by_cases hj : j < 4
  · rw [if_pos (by rw [hsz]; omega), rowsH, rangeFlat_get (f := fun i => mkC (s.l i) (vs i)) (sz := 4) (fun _ => rfl) hi hj]
  · rw [if_neg (by rw [hsz]; omega), List.getElem?_eq_none (by show 4 ≤ j; omega)]
theorem run_rowsH (w : World) (s : HS) (vs : Nat → Value) (i : Nat) (hi : i < 64) : (Instr.index 47 (.agg (rowsH s vs).toArray) (.int .i64 i)).run Tryd.prog w = .ok (.agg (mkC (s.l i) (vs i)).toArray) w := by
  have he := rowsH_at s vs i hi
  have h0 : (i : Int) < 64 := by omega
  obtain ⟨f, hf⟩ : ∃ f, Tryd.prog.underlying 46 = some (.struct f) := ⟨_, Tryd.underlying46⟩
  obtain ⟨ei, hi2, hsz⟩ : ∃ i, Tryd.prog.info? 46 = some i ∧ i.size = 4 := by
    have : (Tryd.prog.info? 46).map (·.size) = some 4 := by kernel_rfl
    cases h : Tryd.prog.info? 46 with
    | none => rw [h] at this; cases this
    | some i => rw [h] at this; simp at this; exact ⟨i, rfl, this⟩
  generalize (rowsH s vs).toArray = cs at *
  simp [Instr.index, asIntOf, run_underlying Tryd.underlying47, run_underlying hf, sizeOf, typeInfo, hi2, hsz, part, isAgg, Result.andThen, h0, he]
  intro h; omega
theorem wpList_index_run {P : Program} {w : World} {ops : Array Oper} {rest : List Oper} {o : Oper} {a : Act} {Q : Exit → Act → World → Prop} {t : TypeId} (hg : o.guard = none) (x y : Operand) (ho : o.op = .index t x y) {u k v : Value} (hx : a.eval x = u) (hy : a.eval y = k)
    (hrun : (Instr.index t u k).run P w = .ok v w) (h : wpList P ops Q rest (a.put o.dst v) w) : wpList P ops Q (o :: rest) a w := by
  refine wpList_plain hg fun K hK => ?_
  unfold Oper.wp
  simp only [execOp, ho, hx, hy, Sem.run_bind, Sem.run_pure, hrun, Result.andThen_ok]
  exact hK _ _ h
theorem horC_one (s : HS) (vs : Nat → Value) (h : ∀ i, i < 64 → (vs i).oneCell' = true) : (horC s vs).all (·.oneCell') = true := by
  rw [horC, rowC, List.all_toArray, List.all_append]
  rw [List.all_flatMap]
  refine Bool.and_eq_true_iff.2 ⟨rfl, List.all_eq_true.2 fun i hi => ?_⟩
  have := h i (List.mem_range.1 hi)
  simp [mkC, this]
  exact ⟨rfl, rfl, rfl⟩
def mixV (k : Nat) (ns vs : Nat → Value) : Nat → Value := fun i => if i < k then ns i else vs i
theorem HS.set_id (s : HS) (p : Nat) : s.set p (s.l p) = s := by
  unfold HS.set
  cases s
  congr 1
  funext k
  dsimp only
  split
  · rename_i e; rw [e]
  · rfl
theorem mix_next (k : Nat) (ns vs : Nat → Value) (v : Value) : setV (mixV k ns vs) k v = mixV (k + 1) (setV ns k v) vs := by
  funext i
  unfold setV mixV
  dsimp only
  by_cases h : i = k
  · subst h; rw [if_pos rfl, if_pos (by omega), if_pos rfl]
  · rw [if_neg h]
    by_cases h2 : i < k
    · rw [if_pos h2, if_pos (by omega), if_neg h]
    · rw [if_neg h2, if_neg (by omega)]
theorem mix_64 (s : HS) (ns vs : Nat → Value) : horC s (mixV 64 ns vs) = horC s ns := rowC_congr fun i hi => by unfold mixV; rw [if_pos hi]
/-- Of the copy in block b2 the first k rows are its own. -/
structure CpInv (B : Nat) (w : World) (b2 : Nat) (s : HS) (vs ns : Nat → Value) (k : Nat) : Prop where
  blk : BlkAt w b2 49 (horC s (mixV k ns vs))
  row : ∀ i, i < k → w.ownsRow B 56 2 (ns i) (s.l i).ws.length ((s.l i).ws.flatMap pmF)
  sep : ∀ i j, i < k → j < k → i ≠ j → ∀ g, (ns i).ownBlock = some g → (ns j).ownBlock ≠ some g
  nb : ∀ i, i < k → (ns i).ownBlock ≠ some b2
theorem CpInv.next {B : Nat} {w w' : World} {b2 : Nat} {s : HS} {vs ns : Nat → Value} {k : Nat} {v : Value} (h : CpInv B w b2 s vs ns k) (hk : k < 64) (hb : Below w.heap.size w w') (hB : B ≤ w.heap.size) (ho : w'.ownsRow w.heap.size 56 2 v (s.l k).ws.length ((s.l k).ws.flatMap pmF)) :
    CpInv B (w'.setCell ⟨b2, 2 + k * 4 + 3, none⟩ v) b2 s vs (setV ns k v) (k + 1) := by
  have hlt := h.blk.lt
  have hv2 : v.ownBlock ≠ some b2 := fun hg => by have := (ho.lt b2 hg).1; omega
  refine ⟨?_, fun i hi => ?_, fun i j hi hj hij g hg => ?_, fun i hi => ?_⟩
  · have h1 := (h.blk.below hb hlt).set (2 + k * 4 + 3) v
    rw [horC_set s (mixV k ns vs) k 3 hk (by decide) v (s.l k) v rfl, HS.set_id, mix_next] at h1
    exact h1
  · by_cases e : i = k
    · subst e
      rw [setV_same]
      exact own_mono (own_keep ho fun g hg _ => Below.heap_setCell _ _ _ _ (fun e => hv2 (by rw [hg, e]))) hB
    · rw [ownB_setV e]
      exact own_keep (own_belowB (h.row i (by omega)) hb) fun g hg _ => Below.heap_setCell _ _ _ _ (fun e => h.nb i (by omega) (by rw [hg, e]))
  · by_cases e : i = k
    · subst e
      rw [setV_same] at hg
      rw [ownB_setV (fun e => hij e.symm)]
      intro hg'
      have := (ho.lt g hg).1
      have := ((h.row j (by omega)).lt g hg').2
      omega
    · rw [ownB_setV e] at hg
      by_cases e' : j = k
      · subst e'
        rw [setV_same]
        intro hg'
        have := (ho.lt g hg').1
        have := ((h.row i (by omega)).lt g hg).2
        omega
      · rw [ownB_setV e']
        exact h.sep i j (by omega) (by omega) hij g hg
  · by_cases e : i = k
    · subst e; rw [setV_same]; exact hv2
    · rw [ownB_setV e]; exact h.nb i (by omega)
theorem CpInv.below {B : Nat} {w w' : World} {b2 : Nat} {s : HS} {vs ns : Nat → Value} {k : Nat} (h : CpInv B w b2 s vs ns k) (hb : Below w.heap.size w w') : CpInv B w' b2 s vs ns k :=
  ⟨h.blk.below hb h.blk.lt, fun i hi => own_belowB (h.row i hi) hb, h.sep, h.nb⟩
theorem Tryd.horI (s : HS) (vs : Nat → Value) : (Tryd.prog.info? 49).map (·.size) = some (horC s vs).size := by rw [horC_size]; kernel_rfl
def zHS : HS := ⟨0, 0, fun _ => ⟨0, 0, 0, []⟩⟩
theorem Tryd.horZ : (Tryd.prog.info? 49).map (·.zero) = some (some (.agg (horC zHS nilV))) := by kernel_rfl
section
variable {B : Nat} {w : World} {O : Nat → Prop} {b : Nat} {s : HS} {vs : Nat → Value}
set_option maxHeartbeats 3200000 in
set_option maxRecDepth 100000 in
theorem copy_any (hlen : ∀ i, (s.l i).ws.length ≤ 1000000) (h : HorAt B w O b s vs) :
    Calls Tryd.prog 18 #[.pointer (some ⟨b, 0, none⟩)] w fun e w' => ∃ b2 O2 vs2, e = .returned (.pointer (some ⟨b2, 0, none⟩)) ∧ HorAt B w' O2 b2 s vs2 ∧ (∀ g, O2 g → w.heap.size ≤ g) ∧ Below w.heap.size w w' := by
  have hone : ∀ i, i < 64 → (vs i).oneCell' = true := fun i hi => by
    obtain ⟨a, c, e, _⟩ := Rd.own (h.row i hi)
    rw [e]; rfl
  have hall := horC_one s vs hone
  have hblk := h.blk
  have hZ := BlkAt.new w 49 (horC zHS nilV)
  have hsz : (horC zHS nilV).size = (horC s vs).size := by rw [horC_size, horC_size]
  have hI := Tryd.horI s vs
  have hB : B ≤ w.heap.size := Nat.le_trans (h.lo b h.ob) (Nat.le_of_lt h.lt)
  have hlt := h.lt
  have hsz2 : (Tryd.prog.info? 47).map (·.size) = some (rowsH s vs).length := by rw [rowsH_len]; kernel_rfl
  have HI := Lib.hid (fun W i hi => run_rowsH W s vs i hi)
  have HR := Lib.hid (fun W (hb : Below w.heap.size w W) => (h.below hb).range)
  obtain ⟨hc, HC⟩ : ∃ z, Hid (horC s vs = z) := ⟨_, Lib.hid rfl⟩
  rw [HC.out] at hall hblk hsz hI
  generalize hrs : rowsH s vs = rs at *
  clear hrs hone
  go_enter Tryd.func18, Tryd.ntmps18
  go_wp2_with (first
    | (refine wpList_blk_load rfl (.tmp 7) rfl Tryd.underlying49 rfl rfl hblk hI ?_)
    | (refine wpList_blk_alloc rfl rfl Tryd.horZ w.heap.size rfl ?_)
    | (refine wpList_blk_store rfl (.tmp 3) (.tmp 8) rfl rfl rfl hZ hI hsz hall ?_; intro w2 hB2 hK2 hsz3; have hbel : Below w.heap.size w w2 := (Kp.below ((Below.refl w.heap.size w).alloc (Nat.le_refl _) _) hK2 (Nat.le_refl _) (by simp)); have HRR := HR.out w2 hbel)
    | (refine wpList_load_mid rfl _ (.tmp 11) rfl b 2 rfl rs _ HRR Tryd.underlying47 rfl hsz2 ?_))
  rw [← HC.out] at hB2
  have hcp0 : CpInv w.heap.size w2 w.heap.size s vs (fun _ => .slice none 0 0) 0 := ⟨by rw [show mixV 0 (fun _ => .slice none 0 0) vs = vs from by funext i; exact if_neg (by omega)]; exact hB2, fun i hi => absurd hi (by omega), fun i j hi => absurd hi (by omega), fun i hi => absurd hi (by omega)⟩
  clear hZ hall hblk hsz hI hK2 HRR hsz2 hB2 HC HR
  go_loopw [4, 5, 13] (fun _ _ i wr => ∃ (k : Nat) (ns : Nat → Value), k ≤ 64 ∧ i = .int .i64 k ∧ CpInv w.heap.size wr w.heap.size s vs ns k ∧ Below w.heap.size w wr) (fun _ _ i _ => 64 - (intOf i).toNat)
  case atStart => exact ⟨0, _, Nat.zero_le _, rfl, hcp0, hbel⟩
  case round =>
    clear hcp0 hbel
    obtain ⟨k, ns, hk, rfl, hcp, hbr⟩ := hrel
    by_cases hlt2 : k < 64
    · have hkI : (k : Int) < 64 := by omega
      obtain ⟨ra, rc, hv, hrd⟩ := Rd.own ((h.below hbr).row k hlt2)
      have hIk := fun W => HI.out W k hlt2
      rw [hv] at hIk
      replace hIk : ∀ W, (Instr.index 47 (.agg rs.toArray) (.int .i64 k)).run Tryd.prog W = .ok (.agg #[.int .u64 (s.l k).heard, .int .u64 (s.l k).reached, .int .u32 (s.l k).came, .slice ra (s.l k).ws.length rc]) W := hIk
      replace hIk := Lib.hid hIk
      have hln := hlen k
      have hrdP : RdP wr ra (s.l k).ws.length rc (s.l k).ws := hrd
      have hbA : Below wr.heap.size wr (wr.alloc (.cells #[.int .u64 (s.l k).heard, .int .u64 (s.l k).reached, .int .u32 (s.l k).came, .slice ra (s.l k).ws.length rc] 46)) := (Below.refl _ _).alloc (Nat.le_refl _) _
      have hcpA := hcp.below hbA
      have hM := BlkAt.new wr 46 #[.int .u64 (s.l k).heard, .int .u64 (s.l k).reached, .int .u32 (s.l k).came, .slice ra (s.l k).ws.length rc]
      have m3 : (wr.alloc (.cells #[.int .u64 (s.l k).heard, .int .u64 (s.l k).reached, .int .u32 (s.l k).came, .slice ra (s.l k).ws.length rc] 46)).cell? ⟨wr.heap.size, 3, none⟩ = some (.slice ra (s.l k).ws.length rc) := hM.cell rfl
      have hrA : RdP (wr.alloc (.cells #[.int .u64 (s.l k).heard, .int .u64 (s.l k).reached, .int .u32 (s.l k).came, .slice ra (s.l k).ws.length rc] 46)) ra (s.l k).ws.length rc (s.l k).ws := Rd.below hrdP hbA (Nat.le_refl _)
      have HCl := Lib.hid (clone_any ra _ rc (s.l k).ws hln _ hrA)
      have hbrA := hbr.trans (hbA.mono hbr.size)
      clear hrd hrdP hcp hbA hrA hM hv
      go_wp2_with (refine wpList_index_run rfl (.tmp 12) (.tmp 13) rfl rfl rfl (hIk.out _) ?_)
      generalize wr.alloc _ = w4 at *
      refine HCl.out.mono ?_
      rintro e w5 ⟨v, rfl, hown, hb5⟩
      have hN := Lib.hid (hcpA.next hlt2 hb5 hbrA.size hown)
      obtain ⟨va, vc, rfl, _⟩ := Rd.own hown
      have hcp5 := hcpA.below hb5
      have f3 := hcp5.blk.fz (2 + k * 4 + 3)
      have s3 : w5.cell? ⟨w.heap.size, 2 + k * 4 + 3, none⟩ = some (mixV k ns vs k) := hcp5.blk.cell ((rowC_at (sz := 4) (pre := s.pre) (f := fun i => mkC (s.l i) (mixV k ns vs i)) (j := 3) (fun _ => rfl) hlt2 (by decide)).trans rfl)
      have hbE : Below w.heap.size w (w5.setCell ⟨w.heap.size, 2 + k * 4 + 3, none⟩ (.slice va (s.l k).ws.length vc)) := (hbrA.trans (hb5.mono hbrA.size)).setCell (Nat.le_refl _) _
      have hbE2 := Lib.hid hbE
      clear hcpA hcp5 hown hb5 hbE HCl hbrA
      generalize mixV k ns vs k = ov at s3
      go_wp2
      go_roundw
      case rel => exact ⟨k + 1, _, by omega, by go_num, hN.out, hbE2.out⟩
      case measure => simp [intOf]; omega
    · obtain rfl : k = 64 := by omega
      have hbl := hcp.blk
      rw [mix_64] at hbl
      have hfin : HorAt B wr (fun g => g = w.heap.size ∨ ∃ i, i < 64 ∧ (ns i).ownBlock = some g) w.heap.size s ns :=
        ⟨hbl, fun i hi => own_mono (hcp.row i hi) hB, fun i j hi hj => hcp.sep i j hi hj, fun i hi g hg => .inr ⟨i, hi, hg⟩, fun i hi => hcp.nb i hi, .inl rfl,
          fun g hg => by
            rcases hg with rfl | ⟨i, hi, hg⟩
            · exact hB
            · exact Nat.le_trans hB ((hcp.row i hi).lt g hg).1,
          fun g hg => by
            rcases hg with rfl | ⟨i, hi, hg⟩
            · exact hbl.lt
            · exact ((hcp.row i hi).lt g hg).2⟩
      have hge : ∀ g, (g = w.heap.size ∨ ∃ i, i < 64 ∧ (ns i).ownBlock = some g) → w.heap.size ≤ g := fun g hg => by
        rcases hg with rfl | ⟨i, hi, hg⟩
        · exact Nat.le_refl _
        · exact ((hcp.row i hi).lt g hg).1
      clear hbl
      go_wp2
      go_ret
      exact ⟨_, _, _, rfl, hfin, hge, hbr⟩
end
end Go.Proofs.YtmhckkcppmfjpaaDoor
