/- filter: rows of items of one's own; claims -/
import Derived.Test.YteeeikkapnchlaaDoorFilC
import Derived.Deep.Cut
import Derived.Deep.CutRange
namespace Go.Proofs.YteeeikkapnchlaaDoor
set_option linter.unusedSimpArgs false
set_option linter.unusedVariables false
open Go.RowKit Go.Sort
section
variable {P : Program} {w : World} {b : Nat} {l : List (Int × Value)} {t K E : TypeId} {ops : Array Oper} {rest : List Oper} {o : Oper} {a : Act} {Q : Exit → Act → World → Prop}
theorem wpList_map_look1 (hg : o.guard = none) (x ix : Operand) (ho : o.op = .lookup t x ix false) (ht : P.underlying t = some (.map K E)) (hk : P.underlying K = some (.int .i64)) {z : Value} (hz : (zeroValue E).run P w = .ok z w) (h : MapAt w b l) (hx : a.eval x = .map (some b)) {k : Int} (hix : a.eval ix = .int .i64 k) {u : Value} (hu : (mGet l k).getD z = u)
    (hK : wpList P ops Q rest (a.put o.dst u) w) : wpList P ops Q (o :: rest) a w := by
  subst hu
  refine wpList_plain hg fun K' hK' => ?_
  unfold Oper.wp
  simp [execOp, ho, hx, hix, h.run_lookup1 ht hk hz k, Result.andThen]
  exact hK' _ _ hK
end
theorem Tryd.zeroI (W : World) : (zeroValue 45).run Tryd.prog W = .ok (.agg (iwA .zero)) W := by kernel_rfl
/-- What was told by a process. -/
def wGet (l : List (Int × Iw)) (k : Int) : Option Iw := (l.find? fun p => p.1 == k).map (·.2)
def tGet (l : List (Int × Itm)) (k : Int) : Option Itm := (l.find? fun p => p.1 == k).map (·.2)
theorem tl_get (l : List (Int × Iw)) (k : Int) : mGet (tlM l) k = (wGet l k).map fun x => .agg (iwA x) := by
  unfold mGet wGet tlM
  rw [List.find?_map, Option.map_map, Option.map_map]
  rfl
theorem tl_getD (l : List (Int × Iw)) (k : Int) : (mGet (tlM l) k).getD (.agg (iwA .zero)) = .agg (iwA ((wGet l k).getD .zero)) := by
  rw [tl_get]
  cases wGet l k <;> rfl
theorem wGet_v (l : List (Int × Iw)) (k : Int) : (wGet l k).map (·.v) = tGet (l.map fun p => (p.1, p.2.v)) k := by
  unfold wGet tGet
  rw [List.find?_map, Option.map_map, Option.map_map]
  rfl
theorem wGet_mem {l : List (Int × Iw)} {k : Int} {x : Iw} (h : wGet l k = some x) : (k, x) ∈ l := by
  unfold wGet at h
  obtain ⟨p, hp, rfl⟩ := Option.map_eq_some_iff.1 h
  have h1 := List.mem_of_find?_eq_some hp
  have h2 := List.find?_some hp
  have : p.1 = k := by simpa using h2
  subst this
  exact h1
/-- A row of items of one's own, whose records' views lie apart from it, and off the blocks of F. -/
structure ItRow (F : Nat → Prop) (B : Nat) (w : World) (v : Value) (n : Nat) (xs : List Iw) : Prop where
  own : w.ownsRow B 45 18 v n (xs.flatMap iwC)
  inn : ∀ x ∈ xs, InF (fun g => F g ∨ v.ownBlock = some g) w x
section
variable {F : Nat → Prop} {B : Nat} {w w' : World} {v v' : Value} {n : Nat} {xs : List Iw} {x : Iw}
theorem ItRow.below (h : ItRow F B w v n xs) (hb : Below w.heap.size w w') : ItRow F B w' v n xs := ⟨own_belowB h.own hb, fun x hx => (h.inn x hx).below hb⟩
theorem ItRow.nil : ItRow F B w (.slice none 0 0) 0 [] := ⟨World.ownsRow_nil _ _ _ _, fun x hx => by cases hx⟩
theorem ItRow.push (h : ItRow F B w v n xs) (hx : InF (fun g => F g ∨ v.ownBlock = some g) w x) (ho : w'.ownsRow B 45 18 v' (n + 1) (xs.flatMap iwC ++ iwC x)) (hg : w.grownBy w' v.ownBlock) (hv : v'.ownBlock = v.ownBlock ∨ ∀ k, v'.ownBlock = some k → w.heap.size ≤ k) : ItRow F B w' v' (n + 1) (xs ++ [x]) := by
  refine ⟨by rw [List.flatMap_append]; simpa using ho, fun y hy => ?_⟩
  have hy' : InF (fun g => F g ∨ v.ownBlock = some g) w y := by
    rcases List.mem_append.1 hy with hy | hy
    · exact h.inn y hy
    · obtain rfl := List.mem_singleton.1 hy; exact hx
  have h1 := hy'.more (F' := fun g => (F g ∨ v.ownBlock = some g) ∨ v'.ownBlock = some g) (fun g hf => hf.elim .inl (fun e => by
    rcases hv with hv | hv
    · exact .inl (.inr (hv ▸ e))
    · exact .inr (hv g e)))
  have h2 := h1.kpO (KpO.ofGrown (O := fun g => v.ownBlock = some g) hg (fun k e => e)) (fun g e => .inl (.inr e))
  exact h2.less (fun g hf => hf.elim (fun hf => .inl (.inl hf)) .inr)
theorem ItRow.len (h : ItRow F B w v n xs) : xs.length = n := by
  have := h.own.1
  rw [flatMap_len iwC_len] at this
  omega
end
def claimsV (s : Fs) : List Itm := (memI s.mem).map fun p => (tGet s.told p).getD .zero
set_option maxHeartbeats 3200000 in
set_option maxRecDepth 100000 in
theorem claims_any {F : Nat → Prop} (s : Fw) (b m : Nat) (w : World) (hT : Tab w) (hF : ∀ g, F g → g < w.heap.size) (h : FAt F w b s) (hm : s.mb = some m) :
    Calls Tryd.prog 31 #[.pointer (some ⟨b, 0, none⟩)] w fun e w' => ∃ (a : Option Addr) (c : Nat) (cl : List Iw), e = .returned (.slice a (cardN s.mem) c) ∧ RdF F w' 18 a (cardN s.mem) c (cl.flatMap iwC) ∧ (∀ x ∈ cl, InF F w' x) ∧ cl.map (·.v) = claimsV s.s ∧ (∀ g off, a = some ⟨g, off, none⟩ → w.heap.size ≤ g) ∧ Below w.heap.size w w' := by
  obtain ⟨c7, c8, c9, c10, c11, c12⟩ := h.cells
  have hmm := h.ok.mem
  have HL := Lib.hid (list_any s.mem w hmm hT)
  have h0 := Lib.hid h
  have hc64 := cardN_le s.mem
  have hlen := memI_len s.mem
  obtain ⟨cn, hcn⟩ : ∃ z, z = cardN s.mem := ⟨_, rfl⟩
  rw [← hcn] at HL hc64 hlen ⊢
  replace hlen := Lib.hid hlen
  clear h hcn
  go_enter Tryd.func31, Tryd.ntmps31
  go_wp2_with fail
  refine HL.out.mono ?_
  rintro e w2 ⟨v, rfl, hown, hb2⟩
  obtain ⟨la, lc, rfl, hrl⟩ := Rd.own hown
  have h2 := Lib.hid (h0.out.below hb2)
  replace hrl := Lib.hid hrl
  have hb2' := Lib.hid hb2
  have hF2 : Hid (∀ g, F g → g < w2.heap.size) := Lib.hid (fun g hg => Nat.lt_of_lt_of_le (hF g hg) hb2.size)
  have hcv : Hid (claimsV s.s = (memI s.mem).map fun p => ((wGet s.told p).getD .zero).v) := Lib.hid (by
    unfold claimsV
    refine List.map_congr_left (fun p _ => ?_)
    show (tGet (s.told.map fun p => (p.1, p.2.v)) p).getD _ = _
    rw [← wGet_v]
    cases wGet s.told p <;> rfl)
  clear hown c7 c8 c9 c10 c11 c12 HL hb2
  go_wp2
  go_loopw [3, 5, 6, 13] (fun ov _ _ iv wr => ∃ (i : Nat) (a : Option Addr) (c : Nat) (xs : List Iw), i ≤ cn ∧ iv = .int .i64 i ∧ ov = .slice a i c ∧ Hid (ItRow F w2.heap.size wr (.slice a i c) i xs) ∧ Hid (xs.map (·.v) = ((memI s.mem).take i).map fun p => ((wGet s.told p).getD .zero).v) ∧ Hid (Below w2.heap.size w2 wr)) (fun _ _ _ iv _ => cn - (RowKit.intOf iv).toNat)
  case atStart => exact ⟨0, none, 0, [], Nat.zero_le _, rfl, rfl, Lib.hid ItRow.nil, Lib.hid rfl, Lib.hid (Below.refl _ _)⟩
  case round =>
    obtain ⟨i, a, c, xs, hi, rfl, rfl, hR, hV, hbr⟩ := hrel
    obtain ⟨wo, rfl⟩ : ∃ z, z = wr := ⟨_, rfl⟩
    by_cases hin : i < cn
    · have hiI : (i : Int) < cn := by omega
      have hil : i < (memI s.mem).length := by rw [hlen.out]; exact hin
      obtain ⟨gl, ol, rfl, _⟩ := Rd.addr hrl.out (by omega)
      have hcell : wo.cell? ⟨gl, ol + i, none⟩ = some (.int .i64 (memI s.mem)[i]) := (Rd.below hrl.out hbr.out (Nat.le_refl _)).int1 i hil
      have hst := Lib.hid (show ((memI s.mem).take (i + 1)).map (fun p => ((wGet s.told p).getD .zero).v) = ((memI s.mem).take i).map (fun p => ((wGet s.told p).getD .zero).v) ++ [((wGet s.told (memI s.mem)[i]).getD .zero).v] from by rw [List.take_succ_eq_append_getElem hil, List.map_append]; rfl)
      rw [← hV.out] at hst
      generalize (memI s.mem)[i] = p at *
      have hr := Lib.hid (h2.out.below hbr.out)
      obtain ⟨c7, c8, c9, c10, c11, c12⟩ := hr.out.cells
      rw [hm] at c10
      have hM := (hr.out.map m hm).1
      have hgd := tl_getD s.told p
      obtain ⟨y, hy⟩ : ∃ z, z = (wGet s.told p).getD .zero := ⟨_, rfl⟩
      have hyI : InF F wo y ∧ y.v.rc.pend.length ≤ 1000 := by
        rw [hy]
        cases e : wGet s.told p with
        | none => exact ⟨InF.zero, Nat.zero_le _⟩
        | some x => exact ⟨hr.out.inn _ (wGet_mem e), (hr.out.ok.told _ (wGet_mem e)).1.2.2⟩
      rw [← hy] at hgd hst
      replace hy := Lib.hid hy
      have hyl := hyI.1.len
      have hyd := hyI.1.rd
      have hy1 := hyI.2
      replace hyd := Lib.hid hyd
      clear c7 c8 c9 c11 c12 hyI
      have hZ := BlkAt.new wo 45 (iwA .zero)
      go_wp2_with (first
        | (refine wpList_map_look1 rfl (.tmp 20) (.tmp 21) rfl Tryd.underlying68 Tryd.underlying3 (Tryd.zeroI _) hM rfl rfl hgd ?_)
        | (refine wpList_blk_alloc rfl rfl Tryd.iwZ wo.heap.size rfl ?_)
        | (refine wpList_blk_store (cs := iwA y) rfl (.tmp 6) (.tmp 22) rfl rfl rfl hZ (Tryd.iwI _) rfl (iwA_one y) ?_; intro w4 hB4 hK4 hsz4)
        | (refine wpList_blk_get (cs := #[.int .u64 y.v.rc.last.num, .int .u64 y.v.rc.last.ce, .int .i64 y.v.rc.last.cr, .int .u64 y.v.rc.last.mem, .slice y.pa y.pn y.pc]) rfl (.tmp 23) rfl rfl hB4 Tryd.underlying38 rfl Tryd.recI (iwA_rec y) ?_))
      have hb4 := alloc_store hK4
      refine (own_any y.v.rc.last y.pa y.pn y.pc y.v.rc.pend (by omega) w4 (RdV.below hyd.out hb4 (Nat.le_refl _))).mono ?_
      rintro e w5 ⟨oa, oc, rfl, hr5, hb5, hge⟩
      have hB5 := hB4.below hb5 hB4.lt
      have hlB := hB4.lt
      clear hZ hB4 c10 hM hgd
      go_upto_region 7 with (first
        | (refine wpList_blk_put (cs := #[.int .u64 y.v.rc.last.num, .int .u64 y.v.rc.last.ce, .int .i64 y.v.rc.last.cr, .int .u64 y.v.rc.last.mem, .slice oa y.pn oc]) rfl (.tmp 26) (.tmp 25) rfl rfl rfl hB5 Tryd.recI (by show 6 + 5 ≤ 18; decide) (by simp [Value.oneCell']) ?_; intro w6 hB6 hK6 hs6; rw [show setArr (iwA y) 6 (#[.int .u64 y.v.rc.last.num, .int .u64 y.v.rc.last.ce, .int .i64 y.v.rc.last.cr, .int .u64 y.v.rc.last.mem, .slice oa y.pn oc] : Array Value).toList = iwA (y.own oa oc) from rfl] at hB6))
      have hb6 : Below wo.heap.size wo w6 := Kp.below (belS hb4 hb5) hK6 (Nat.le_refl _) (Nat.le_trans hb4.size hb5.size)
      have hb7 := hb6.alloc hb6.size (.cells (iwA (y.own oa oc)) 45)
      have hw2o := hbr.out.size
      have h4s := hb4.size
      have h5s := hb5.size
      have h6s := hK6.size
      have hIn6 : RdV w6 oa y.pn oc y.v.rc.pend := hK6.rd hr5 (fun g off e => by have := hge g off e; omega)
      have hR7 := hR.out.below hb7
      have hIn7 : InF (fun g => F g ∨ (Value.slice a i c).ownBlock = some g) (w6.alloc (.cells (iwA (y.own oa oc)) 45)) (y.own oa oc) := by
        refine ⟨RdV.below hIn6 (alloc_below _ _) (Nat.le_refl _), Off.fresh (B := wo.heap.size) (fun g off e => Nat.le_trans h4s (hge g off e)) (fun g hg => ?_)⟩
        rcases hg with hg | hg
        · have := hF2.out g hg; omega
        · exact (hR.out.own.lt g hg).2
      clear hIn6 hr5 hB5 hb5 hb4
      go_wp2_with (first
        | (refine wpList_blk_load rfl (.tmp 6) rfl Tryd.underlying45 rfl rfl hB6 (Tryd.iwI _) ?_)
        | (refine wpList_buildSlice1 rfl 32 45 (.tmp 28) rfl Tryd.iwE (by decide) rfl rfl ?_)
        | (at_builtin; refine wpList_append_apart Tryd.iwE rfl (.tmp 27) (.tmp 29) rfl hR7.own rfl (Rd.lit1 (cs := iwC (y.own oa oc)) (by first | rfl | exact hs6.symm) rfl) (by decide) rfl (iwC_one _) (by unfold maxLen; omega) (by omega) (by simp; omega) ?_; intro v' w8 ho8 hg8 hv8; obtain ⟨a', c', rfl, _⟩ := Rd.own ho8))
      have hRN := Lib.hid (hR7.push hIn7 ho8 hg8 hv8)
      have hbN := Lib.hid (belG (hbr.out.trans (hb7.mono hw2o)) hg8 (by simp; omega) (fun g hg => (hR7.own.lt g hg).1))
      go_roundw
      case rel => exact ⟨i + 1, a', c', xs ++ [y.own oa oc], by omega, by go_num, rfl, hRN, Lib.hid (by rw [List.map_append, hst.out]; rfl), hbN⟩
      case measure => simp [RowKit.intOf]; omega
    · obtain rfl : i = cn := by omega
      have hRF := Rd.own hR.out.own
      obtain ⟨_, _, e, hrd⟩ := hRF
      injection e with e1 _ e3
      subst e1 e3
      have hge := own_fresh hR.out.own
      have hfin := hb2'.out.size
      have hin2 : ∀ x ∈ xs, InF F wo x := fun x hx => (hR.out.inn x hx).less (fun g hg => .inl hg)
      have hv2 : xs.map (·.v) = claimsV s.s := by rw [hcv.out, hV.out, List.take_of_length_le (Nat.le_of_eq hlen.out)]
      have hbF := belS hb2'.out hbr.out
      have hoF : Off F a i := Off.fresh hge hF2.out
      clear hR hV hin hcv h0 h2
      go_wp2
      go_ret
      exact ⟨_, _, rfl, xs, ⟨hrd, hoF⟩, hin2, hv2, fun g off e => Nat.le_trans hfin (hge g off e), hbF⟩
end Go.Proofs.YteeeikkapnchlaaDoor
