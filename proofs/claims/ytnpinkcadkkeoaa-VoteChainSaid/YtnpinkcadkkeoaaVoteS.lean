/- walks of the reference: of, Last, Views -/
import Derived.Test.YtnpinkcadkkeoaaVoteO
import Derived.Deep.RegionLaw
namespace Go.Proofs.Ytnpinkcadkkeoaa
open Go.RowKit Go.Sort

theorem Try.rrecE : Elt Try.prog 26 61 (.agg #[.int .u64 0, .int .u64 0, .int .i64 0, .int .u64 0, .slice none 0 0]) 5 56 := ⟨by kernel_rfl, by kernel_rfl, rfl, by decide⟩
/-- The five cells of a record. -/
def RecC (w : World) (cs : List Value) (r : Rc) : Prop := ∃ pa pn pc, cs = [.int .u64 r.last.num, .int .u64 r.last.ce, .int .i64 r.last.cr, .int .u64 r.last.mem, .slice pa pn pc] ∧ RdV w pa pn pc r.pend
theorem RecC.len {w : World} {cs : List Value} {r : Rc} (h : RecC w cs r) : cs.length = 5 := by obtain ⟨_, _, _, rfl, _⟩ := h; rfl
theorem flatten_len {w : World} {l : List Rc} : ∀ {ys : List (List Value)}, ys.length ≤ l.length → (∀ i (hi : i < ys.length) (hl : i < l.length), RecC w ys[i] l[i]) → ∀ y ∈ ys, y.length = 5 := by
  intro ys hle h y hy
  obtain ⟨i, hi, rfl⟩ := List.mem_iff_getElem.1 hy
  exact (h i hi (by omega)).len
theorem flatten_get {ys : List (List Value)} (h : ∀ y ∈ ys, y.length = 5) : ∀ i j (hi : i < ys.length), j < 5 → ys.flatten[i * 5 + j]? = ys[i][j]? := by
  induction ys with
  | nil => intro i j hi; cases hi
  | cons y ys ih =>
    intro i j hi hj
    have h5 := h y (List.mem_cons_self ..)
    rw [List.flatten_cons]
    cases i with
    | zero => rw [List.getElem?_append_left (by omega)]; simp
    | succ i =>
      rw [List.getElem?_append_right (by omega), show (i + 1) * 5 + j - y.length = i * 5 + j from by omega]
      exact ih (fun z hz => h z (List.mem_cons_of_mem _ hz)) i j (by simpa using hi) hj
theorem flatten_length {ys : List (List Value)} (h : ∀ y ∈ ys, y.length = 5) : ys.flatten.length = ys.length * 5 := by
  induction ys with
  | nil => rfl
  | cons y ys ih =>
    rw [List.flatten_cons, List.length_append, ih (fun z hz => h z (List.mem_cons_of_mem _ hz)), h y (List.mem_cons_self ..), List.length_cons]
    omega
theorem RdR.ofCells {w : World} {a : Option Addr} {n c : Nat} {l : List Rc} {ys : List (List Value)} (h : Rd w 5 a n c ys.flatten) (hl : ys.length = l.length) (hc : ∀ i (hi : i < ys.length) (hl : i < l.length), RecC w ys[i] l[i]) : RdR w a n c l := by
  have h5 := flatten_len (Nat.le_of_eq hl) hc
  have hn := h.length_eq
  rw [flatten_length h5] at hn
  refine ⟨⟨by omega, h.1.2⟩, ?_⟩
  rcases h.2 with h0 | ⟨b, off, rfl, hlt, hcc⟩
  · exact .inl h0
  · refine .inr ⟨b, off, rfl, hlt, fun i hi => ?_⟩
    obtain ⟨pa, pn, pc, he, hp⟩ := hc i (by omega) hi
    have hg : ∀ j, j < 5 → ys.flatten[i * 5 + j]? = ([.int .u64 l[i].last.num, .int .u64 l[i].last.ce, .int .i64 l[i].last.cr, .int .u64 l[i].last.mem, .slice pa pn pc] : List Value)[j]? := fun j hj => by rw [← he]; exact flatten_get h5 i j (by omega) hj
    refine ⟨pa, pn, pc, ⟨?_, ?_, ?_, ?_, ?_⟩, hp⟩
    · simpa using hcc (i * 5 + 0) _ (hg 0 (by decide))
    · simpa [Nat.add_assoc] using hcc (i * 5 + 1) _ (hg 1 (by decide))
    · simpa [Nat.add_assoc] using hcc (i * 5 + 2) _ (hg 2 (by decide))
    · simpa [Nat.add_assoc] using hcc (i * 5 + 3) _ (hg 3 (by decide))
    · simpa [Nat.add_assoc] using hcc (i * 5 + 4) _ (hg 4 (by decide))
theorem Rd.blk1 {w : World} {e : TypeId} {cs : List Value} {sz b : Nat} (hb : b = w.heap.size) (hs : cs.length = sz) : Rd (w.alloc (.cells cs.toArray e)) sz (some ⟨b, 0, none⟩) 1 1 cs := by
  subst hb
  refine ⟨⟨by omega, Nat.le_refl _, by decide, fun h => by cases h⟩, .inr ⟨_, 0, rfl, by simp, fun j u' hu => ?_⟩⟩
  rw [World.cell?_alloc_at _ _ _ _ rfl]
  simpa using hu
set_option maxHeartbeats 1600000 in
set_option maxRecDepth 100000 in
theorem ofr_any (a : Option Addr) (n c : Nat) (l : List Rc) (hn : n ≤ 1000) (w : World) (hr : RdR w a n c l) :
    Calls Try.prog 9 #[.slice a n c] w fun e w' => ∃ a' c', e = .returned (.slice a' n c') ∧ RdR w' a' n c' l ∧ Below w.heap.size w w' := by
  have hl := Lib.hid hr.len
  go_enter Try.func9, Try.ntmps9
  go_wp2
  go_loopw [3, 4] (fun o i wr => ∃ (k : Nat) (ys : List (List Value)), k ≤ n ∧ i = .int .i64 k ∧ Hid (ys.length = k) ∧ Hid (∀ i (hi : i < ys.length) (hl : i < l.length), RecC w ys[i] l[i]) ∧ wr.ownsRow w.heap.size 61 5 o k ys.flatten ∧ Below w.heap.size w wr) (fun _ i _ => n - (intOf i).toNat)
  case atStart => exact ⟨0, [], Nat.zero_le _, rfl, rfl, (fun i hi => by cases hi), World.ownsRow_nil _ _ _ _, Below.refl _ _⟩
  case round =>
    obtain ⟨k, ys, hk, rfl, hys, hyc, hown, hbr⟩ := hrel
    by_cases hlt : k < n
    · have hkl : k < l.length := by rw [hl.out]; exact hlt
      obtain ⟨bs, off, rfl, hbslt, hcs⟩ := hr.addr (by omega)
      obtain ⟨pa, pn, pc, ⟨c0, c1, c2, c3, c4⟩, hp⟩ := hcs k hkl
      have ec : ∀ i, wr.cell? ⟨bs, i, none⟩ = w.cell? ⟨bs, i, none⟩ := fun i => hbr.cell (p := ⟨bs, i, none⟩) hbslt
      replace c0 := (ec _).trans c0
      replace c1 := (ec _).trans c1
      replace c2 := (ec _).trans c2
      replace c3 := (ec _).trans c3
      replace c4 := (ec _).trans c4
      have hkI : (k : Int) < n := by omega
      obtain ⟨zs, hzs⟩ : ∃ zs : List Value, zs = [.int .u64 l[k].last.num, .int .u64 l[k].last.ce, .int .i64 l[k].last.cr, .int .u64 l[k].last.mem, .slice pa pn pc] := ⟨_, rfl⟩
      have hN : Hid (∀ i (hi : i < (ys ++ [zs]).length) (hl : i < l.length), RecC w ((ys ++ [zs])[i]'hi) (l[i]'hl)) := fun i hi hl' => by
        by_cases e : i < ys.length
        · rw [List.getElem_append_left e]; exact hyc.out i e hl'
        · have hk' := hys.out
          obtain rfl : i = k := by simp at hi; omega
          rw [List.getElem_append_right (by omega)]
          simp only [hk', Nat.sub_self, List.getElem_cons_zero]
          exact ⟨pa, pn, pc, hzs, hp⟩
      replace hzs := Lib.hid hzs
      clear hcs ec hp
      generalize l[k].last = u at *
      have hsz := hbr.size
      have hownd : wr.drew.ownsRow w.heap.size 61 5 _ k ys.flatten := own_below hown (Below.refl _ _).drew
      have hbd := hbr.drew
      have hszd : w.heap.size ≤ wr.drew.heap.size := hsz
      have o6 := Lib.hid (hownd.alloc (.cells #[.int .u64 u.num, .int .u64 u.ce, .int .i64 u.cr, .int .u64 u.mem, .slice pa pn pc] 61))
      have b6 := Lib.hid (hbd.alloc hszd (.cells #[.int .u64 u.num, .int .u64 u.ce, .int .i64 u.cr, .int .u64 u.mem, .slice pa pn pc] 61))
      have hlv : Hid (Rd (wr.drew.alloc (.cells #[.int .u64 u.num, .int .u64 u.ce, .int .i64 u.cr, .int .u64 u.mem, .slice pa pn pc] 61)) 5 (some ⟨wr.heap.size, 0, none⟩) 1 1 [.int .u64 u.num, .int .u64 u.ce, .int .i64 u.cr, .int .u64 u.mem, .slice pa pn pc]) := Rd.blk1 (cs := [.int .u64 u.num, .int .u64 u.ce, .int .i64 u.cr, .int .u64 u.mem, .slice pa pn pc]) rfl rfl
      clear hownd hbd
      go_wp2
      go_region_law (refine step_append_rd Try.rrecE rfl (.tmp 11) (.tmp 23) rfl (by simp [Act.eval, Act.put]) o6.out (by simp [Act.eval, Act.put]) hlv.out (by decide) (by intro u' hu; simp at hu; rcases hu with rfl | rfl | rfl | rfl | rfl <;> rfl) (by unfold maxLen; omega) (by omega) b6.out.size ?_; intro v' w' hown' hg')
      all_goals
        replace hown' := Lib.hid hown'
        replace hg' := Lib.hid (belG b6.out hg' b6.out.size (fun g hg => (o6.out.lt g hg).1))
        clear o6 b6 hlv c0 c1 c2 c3 c4 hbr hown
        go_wp2
        go_roundw
        case rel => exact ⟨k + 1, ys ++ [zs], by omega, by go_num, (by rw [List.length_append, hys.out]; rfl), hN.out, by rw [List.flatten_append, hzs.out]; simpa using hown'.out, hg'.out⟩
        case measure => simp [intOf]; omega
    · obtain rfl : k = n := by omega
      obtain ⟨va, vc, rfl, hrv⟩ := Rd.own hown
      go_wp2
      go_ret
      exact ⟨_, _, rfl, RdR.ofCells hrv (hys.out.trans hl.out.symm) (fun i hi hl' => by obtain ⟨pa, pn, pc, h1, h2⟩ := hyc.out i hi hl'; exact ⟨pa, pn, pc, h1, h2.below hbr (Nat.le_refl _)⟩), hbr⟩
theorem run_neq_vw (w : World) (v u : Vw) : (binOp .neq 31 (.agg #[.int .u64 v.num, .int .u64 v.ce, .int .i64 v.cr, .int .u64 v.mem]) (.agg #[.int .u64 u.num, .int .u64 u.ce, .int .i64 u.cr, .int .u64 u.mem])).run Try.prog w = .ok (.bool (!veq v u)) w := by
  have h := run_eql_vw w v u
  by_cases h1 : v.num = u.num <;> by_cases h2 : v.ce = u.ce <;> by_cases h3 : v.cr = u.cr <;> by_cases h4 : v.mem = u.mem <;> simp [go_sem, veq, h1, h2, h3, h4] <;> omega
set_option maxHeartbeats 800000 in
theorem views_some (b off c b' off' c' n : Nat) (l : List Vw) (w : World) (hr : RdV w (some ⟨b, off, none⟩) n c l) (hr' : RdV w (some ⟨b', off', none⟩) n c' l) :
    Calls Try.prog 13 #[.slice (some ⟨b, off, none⟩) n c, .slice (some ⟨b', off', none⟩) n c'] w fun e w' => e = .returned (.bool true) ∧ Below w.heap.size w w' := by
  have hl := Lib.hid hr.len
  have hmx := Rd.le_max hr
  unfold maxLen at hmx
  go_enter Try.func13, Try.ntmps13
  go_wp2
  go_loopw [5] (fun i wr => ∃ k : Nat, k ≤ n ∧ i = .int .i64 k ∧ Below w.heap.size w wr) (fun i _ => n - (intOf i).toNat)
  case atStart => exact ⟨0, Nat.zero_le _, rfl, Below.refl _ _⟩
  case round =>
    obtain ⟨k, hk, rfl, hbr⟩ := hrel
    by_cases hlt : k < n
    · have hkl : k < l.length := by rw [hl.out]; exact hlt
      obtain ⟨c0, c1, c2, c3⟩ := (hr.below hbr (Nat.le_refl _)).at k hkl
      obtain ⟨d0, d1, d2, d3⟩ := (hr'.below hbr (Nat.le_refl _)).at k hkl
      have hkI : (k : Int) < n := by omega
      have HE := fun W => run_neq_vw W l[k] l[k]
      rw [show veq l[k] l[k] = true from veq_eq.2 rfl] at HE
      replace HE := Lib.hid HE
      generalize l[k] = p at *
      go_wp2
      refine wp_region_quiet_lit (by kernel_rfl) (by kernel_rfl) ?_
      iterate 8 go_big_quiet_step (fail)
      refine wpQuiet_agg (by rfl) Try.viewG (.tmp 20) (.tmp 24) _ rfl rfl rfl HE.out ?_
      refine wpQuiet_nil ?_
      rintro _ ⟨nq, rfl⟩
      go_wp2
      go_roundw
      case rel => exact ⟨k + 1, by omega, by go_num, belN hbr _⟩
      case measure => simp [intOf]; omega
    · have hki : ¬ (k : Int) < n := by omega
      go_wp2
      go_ret
      exact ⟨rfl, hbr⟩
set_option maxHeartbeats 800000 in
theorem views_nil (a a' : Option Addr) (c c' : Nat) (w : World) :
    Calls Try.prog 13 #[.slice a 0 c, .slice a' 0 c'] w fun e w' => e = .returned (.bool true) ∧ Below w.heap.size w w' := by
  go_enter Try.func13, Try.ntmps13
  go_wp2
  refine wp_loop_rounds 1 ?_
  rw [rounds_succ]
  go_wp2
  go_ret
  exact ⟨rfl, Below.refl _ _⟩
theorem views_any (a a' : Option Addr) (n c c' : Nat) (l : List Vw) (w : World) (hr : RdV w a n c l) (hr' : RdV w a' n c' l) :
    Calls Try.prog 13 #[.slice a n c, .slice a' n c'] w fun e w' => e = .returned (.bool true) ∧ Below w.heap.size w w' := by
  by_cases h0 : n = 0
  · subst h0; exact views_nil _ _ c c' w
  · obtain ⟨b, off, rfl, _⟩ := Rd.addr hr (by omega)
    obtain ⟨b', off', rfl, _⟩ := Rd.addr hr' (by omega)
    exact views_some b off c b' off' c' n l w hr hr'
end Go.Proofs.Ytnpinkcadkkeoaa
