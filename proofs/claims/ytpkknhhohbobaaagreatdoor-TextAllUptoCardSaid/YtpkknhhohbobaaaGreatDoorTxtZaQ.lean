/- text: ParseAll -/
import Derived.Test.YtpkknhhohbobaaaGreatDoorTxtZQ
namespace Go.Proofs.YtpkknhhohbobaaaGreatDoor
set_option linter.unusedSimpArgs false
set_option linter.unusedVariables false
open Go.RowKit Go.Sort
def conA (acc : List TEv) (r : Option (List TEv) × Nat) : Option (List TEv) × Nat := (r.1.map (acc ++ ·), r.2)
/-- A text's events; or the line of the fault. -/
def allT : List W8 → Nat → Option (List TEv) × Nat
  | [], n => (none, n)
  | [p], n => if p = [] then (some [], 0) else (none, n)
  | p :: q :: r, n => match parseL p with
    | none => (none, n)
    | some y => conA [y] (allT (q :: r) (n + 1))
theorem conA_nil (r : Option (List TEv) × Nat) : conA [] r = r := by
  obtain ⟨o, k⟩ := r
  cases o <;> rfl
theorem conA_conA (a b : List TEv) (r : Option (List TEv) × Nat) : conA a (conA b r) = conA (a ++ b) r := by
  obtain ⟨o, k⟩ := r
  cases o with
  | none => rfl
  | some l => simp [conA]
theorem allT_cons (p : W8) {r : List W8} (hr : r ≠ []) (n : Nat) : allT (p :: r) n = (match parseL p with
    | none => (none, n)
    | some y => conA [y] (allT r (n + 1))) := by
  cases r with
  | nil => exact absurd rfl hr
  | cons q r => rfl
theorem Tryz.eveE : Elt Tryz.prog 42 34 (.agg #[.int .i64 0, .int .i64 0, .int .u64 0, .int .i64 0, .int .u64 0, .int .i64 0, .int .u64 0, .int .i64 0, .int .u32 0, .int .u64 0, .int .i64 0, .slice none 0 0, .string ⟨#[]⟩, .int .u64 0, .int .u64 0, .int .i64 0, .int .u64 0, .slice none 0 0, .string ⟨#[]⟩]) 19 200 := ⟨by kernel_rfl, by kernel_rfl, rfl, by decide⟩
/-- A read event, as it lies: its rows are new, and off the block of v. -/
structure ErF (w : World) (B : Nat) (v : Value) (e : Er) : Prop where
  f : EvF w B e.x e.da e.dc e.na e.nc
  dn : e.dn = e.x.m.deps.length
  nn : e.nn = e.x.names.length
  od : e.x.m.deps.length ≠ 0 → ∀ g off, e.da = some ⟨g, off, none⟩ → v.ownBlock ≠ some g
  on : e.x.names.length ≠ 0 → ∀ g off, e.na = some ⟨g, off, none⟩ → v.ownBlock ≠ some g
section
variable {w w' : World} {B : Nat} {v v' : Value} {e : Er}
theorem EvF.lt {y : TEv} {da na : Option Addr} {dc nc : Nat} (h : EvF w B y da dc na nc) : (y.m.deps.length ≠ 0 → ∀ g off, da = some ⟨g, off, none⟩ → g < w.heap.size) ∧ (y.names.length ≠ 0 → ∀ g off, na = some ⟨g, off, none⟩ → g < w.heap.size) :=
  ⟨h.dr.blkLt, h.nr.blkLt⟩
theorem ErF.below (h : ErF w B v e) (k : Below w.heap.size w w') : ErF w' B v e := ⟨h.f.below k, h.dn, h.nn, h.od, h.on⟩
theorem ErF.grown (h : ErF w B v e) (k : w.grownBy w' v.ownBlock) (hv : v'.ownBlock = v.ownBlock ∨ ∀ k, v'.ownBlock = some k → w.heap.size ≤ k) : ErF w' B v' e := by
  obtain ⟨l1, l2⟩ := h.f.lt
  refine ⟨⟨Rd.keepB h.f.dr k.size (fun h0 g off e => k.block g (l1 h0 g off e) (fun h9 => h.od h0 g off e h9.symm)), Rd.keepB h.f.nr k.size (fun h0 g off e => k.block g (l2 h0 g off e) (fun h9 => h.on h0 g off e h9.symm)), h.f.db, h.f.nb⟩, h.dn, h.nn, ?_, ?_⟩
  · intro h0 g off e h9
    rcases hv with hv | hv
    · exact h.od h0 g off e (hv ▸ h9)
    · have := hv g h9
      have := l1 h0 g off e
      omega
  · intro h0 g off e h9
    rcases hv with hv | hv
    · exact h.on h0 g off e (hv ▸ h9)
    · have := hv g h9
      have := l2 h0 g off e
      omega
end
/-- What ParseAll answers. -/
def PAll (s : W8) (B : Nat) (e : Ending) (w' : World) : Prop := match allT (pcs 10 s) 1 with
  | (none, n) => e = .returned (.tuple #[.slice none 0 0, .int .i64 (n : Int), .int .i64 4])
  | (some ys, _) => ∃ (a : Option Addr) (c : Nat) (l : List Er), e = .returned (.tuple #[.slice a l.length c, .int .i64 0, .int .i64 0]) ∧ l.map (·.x) = ys ∧ Rd w' 19 a l.length c (l.flatMap erC) ∧ (∀ x ∈ l, ErF w' B (.slice a l.length c) x) ∧ (l.length ≠ 0 → ∀ g off, a = some ⟨g, off, none⟩ → B ≤ g)
theorem PAll.no {s : W8} {B n : Nat} {e : Ending} {w' : World} (h : allT (pcs 10 s) 1 = (none, n)) (he : e = .returned (.tuple #[.slice none 0 0, .int .i64 (n : Int), .int .i64 4])) : PAll s B e w' := by
  unfold PAll
  rw [h]
  exact he
set_option maxHeartbeats 3200000 in
set_option maxRecDepth 100000 in
theorem parseall_any (s : W8) (hs : s.length < 4294967281) (w : World) (hT : TL w) :
    Calls Tryz.prog 12 #[.string (mkB s)] w fun e w' => PAll s w.heap.size e w' ∧ Below w.heap.size w w' := by
  replace hT := Lib.hid hT
  go_enter Tryz.func12, Tryz.ntmps12
  go_wp2
  go_loopw [0, 5, 6] (fun tv lv nv wr => ∃ (t : W8) (l : List Er), tv = .string (mkB t) ∧ nv = .int .i64 (l.length + 1 : Nat) ∧ Hid (l.length + t.length ≤ s.length) ∧ Hid (allT (pcs 10 s) 1 = conA (l.map (·.x)) (allT (pcs 10 t) (l.length + 1))) ∧ Hid (wr.ownsRow w.heap.size 34 19 lv l.length (l.flatMap erC)) ∧ Hid (∀ x ∈ l, ErF wr w.heap.size lv x) ∧ Hid (Below w.heap.size w wr)) (fun tv _ _ _ => match tv with | .string b => b.size | _ => 0)
  case atStart => exact ⟨s, [], rfl, rfl, Lib.hid (by simp), Lib.hid (conA_nil _).symm, Lib.hid (World.ownsRow_nil _ _ _ _), Lib.hid (fun x h => by cases h), Lib.hid (Below.refl _ _)⟩
  case round =>
    obtain ⟨t, l, rfl, rfl, hln, hal, ho, hF, hb⟩ := hrel
    obtain ⟨w1, rfl⟩ : ∃ z, z = wr := ⟨_, rfl⟩
    by_cases ht : t = []
    · have hqq : (mkB t).toList.isEmpty = true := by rw [ht, mkB_toList]; rfl
      obtain ⟨a, c, rfl, hrd⟩ := Rd.own ho.out
      have hz : Hid (allT (pcs 10 s) 1 = (some (l.map (·.x)), 0)) := Lib.hid (by rw [hal.out, ht]; simp [pcs, allT, conA])
      have hlt := Lib.hid ho.out.lt
      replace hrd := Lib.hid hrd
      replace ht := Lib.hid ht
      clear hal
      go_wp2
      refine bodyPost_ret (v := .tuple #[.slice a l.length c, .int .i64 0, .int .i64 0]) (by simp [results, Tryz.results12, go_sem]) rfl ?_
      refine ⟨?_, hb.out⟩
      unfold PAll
      rw [hz.out]
      exact ⟨a, c, l, rfl, rfl, hrd.out, hF.out, fun h0 g off e => by subst e; exact (hlt.out g rfl).1⟩
    · have hpos : 0 < t.length := Nat.pos_of_ne_zero (fun e => ht (List.eq_nil_of_length_eq_zero e))
      have hT1 := Lib.hid (hT.out.on hb.out)
      obtain ⟨mx, hmx⟩ := hT1.out.max
      have hC := Lib.hid (Tryz.strings_Cut (mkB t) ⟨#[10]⟩ mx w1 (by rw [mkB_size]; have := hln.out; omega) hmx)
      rw [show (mkB t).data.toList = t from rfl, show (⟨#[10]⟩ : ByteArray).data.toList = [10] from rfl] at hC
      clear hmx
      have hqq : (mkB t).toList.isEmpty = false := by
        rw [mkB_toList]
        cases t with
        | nil => exact absurd rfl ht
        | cons x l => rfl
      have hnI : IntKind.i64.wrap ((l.length + 1 : Nat) : Int) = (l.length + 1 : Nat) := by have := hln.out; rw [IntKind.wrap_i64]; omega
      by_cases h10 : (10 : UInt8) ∈ t
      · obtain ⟨a, r, rfl, ha⟩ := cut_at h10
        rw [cut_some ha] at hC
        rw [List.length_append, List.length_cons] at hln
        rw [pcs_app ha, allT_cons _ (pcs_ne _ _)] at hal
        have HP := Lib.hid (fun (W : World) (hb1 : Below w1.heap.size w1 W) => parse_any a (by have := hln.out; omega) W (hT1.out.on hb1))
        obtain ⟨S, hS⟩ : ∃ z, z = mkB (a ++ 10 :: r) := ⟨_, rfl⟩
        have hSz := Lib.hid (show S.size = a.length + (r.length + 1) from by rw [hS, mkB_size]; simp)
        rw [← hS] at hC hqq ⊢
        clear hS ht hpos h10
        go_wp2_with fail
        refine hC.out.mono ?_
        rintro e w2 ⟨rfl, nd, rfl⟩
        have hb2 := Lib.hid (belN (Below.refl w1.heap.size w1) nd)
        generalize w1.drewN nd = w2 at *
        clear hC
        have HP2 := Lib.hid (HP.out _ hb2.out)
        clear HP
        go_wp2_with fail
        refine HP2.out.mono ?_
        rintro e w3 ⟨⟨da, dc, na, nc, rfl, hf⟩, hb3⟩
        obtain ⟨cs, hcs⟩ : ∃ z, z = (evC (parX a) da (parX a).m.deps.length dc na (parX a).names.length nc) := ⟨_, rfl⟩
        have hIE : (Tryz.prog.info? 34).map (·.size) = some cs.size := by rw [hcs]; exact Tryz.evI
        have h1c : cs.all (·.oneCell') = true := by rw [hcs]; exact evC_one _ _ _ _ _ _ _
        have h19 : 0 + cs.size ≤ 19 := by rw [hcs, evC_size]; decide
        have hset : setArr #[.int .i64 0, .int .i64 0, .int .u64 0, .int .i64 0, .int .u64 0, .int .i64 0, .int .u64 0, .int .i64 0, .int .u32 0, .int .u64 0, .int .i64 0, .slice none 0 0, .string ⟨#[]⟩, .int .u64 0, .int .u64 0, .int .i64 0, .int .u64 0, .slice none 0 0, .string ⟨#[]⟩] 0 cs.toList = cs := by rw [hcs]; exact evC_set _ _ _ _ _ _ _
        have hcl : cs.toList.length = 19 := by rw [hcs]; rfl
        rw [← hcs]
        replace hcs := Lib.hid hcs
        have hN3 := BlkAt.new w3 34 #[.int .i64 0, .int .i64 0, .int .u64 0, .int .i64 0, .int .u64 0, .int .i64 0, .int .u64 0, .int .i64 0, .int .u32 0, .int .u64 0, .int .i64 0, .slice none 0 0, .string ⟨#[]⟩, .int .u64 0, .int .u64 0, .int .i64 0, .int .u64 0, .slice none 0 0, .string ⟨#[]⟩]
        have hb3a := alloc_below w3 (.cells #[.int .i64 0, .int .i64 0, .int .u64 0, .int .i64 0, .int .u64 0, .int .i64 0, .int .u64 0, .int .i64 0, .int .u32 0, .int .u64 0, .int .i64 0, .slice none 0 0, .string ⟨#[]⟩, .int .u64 0, .int .u64 0, .int .i64 0, .int .u64 0, .slice none 0 0, .string ⟨#[]⟩] 34)
        replace hb3 := Lib.hid hb3
        replace hf := Lib.hid hf
        by_cases h0 : parE a = 0
        · obtain ⟨y, hy⟩ := parE_eq h0
          have hxy : Hid (parX a = y) := Lib.hid (by unfold parX; rw [hy]; rfl)
          rw [hy] at hal
          replace hal := Lib.hid hal.out
          replace hy := Lib.hid hy
          rw [h0]
          clear h0 HP2 hqq
          have hb13 := Lib.hid (belS hb2.out hb3.out)
          go_upto_region 9 with (first
            | (refine wpList_blk_put (cs := cs) rfl (.tmp 10) (.tmp 25) rfl rfl rfl hN3 hIE h19 h1c ?_; intro w4 hX4 hK4 hs4; rw [hset] at hX4; have hb4 := Lib.hid (Kp.below hb3a hK4 (Nat.le_refl _) hb3a.size)))
          have hb14 := Lib.hid (belS hb13.out hb4.out)
          have ho4 := own_belowB ho.out hb14.out
          have hb5 := alloc_below w4 (.cells cs 34)
          have ho5 := own_belowB ho4 hb5
          have hr5 : Rd (w4.alloc (.cells cs 34)) 19 (some ⟨w4.heap.size, 0, none⟩) 1 1 cs.toList := rd_newn rfl hcl
          have hlen : l.length ≤ 4294967296 := by have := hln.out; omega
          have h1l : ∀ u ∈ cs.toList, u.oneCell' = true := by
            have := h1c
            rw [← Array.all_toList] at this
            exact fun u hu => List.all_eq_true.1 this u hu
          have hF5 := Lib.hid (fun (x : Er) (hx : x ∈ l) => ((hF.out x hx).below hb14.out).below hb5)
          have hN5 : Hid (ErF (w4.alloc (.cells cs 34)) w.heap.size u5 ⟨parX a, da, (parX a).m.deps.length, dc, na, (parX a).names.length, nc⟩) := Lib.hid
            ⟨((hf.out.below hb4.out).below hb5).mono (by have := hb.out.size; have := hb2.out.size; omega), rfl, rfl,
              fun h0 g off e h9 => by have := (ho.out.lt g h9).2; have := hf.out.db h0 g off e; have := hb2.out.size; omega,
              fun h0 g off e h9 => by have := (ho.out.lt g h9).2; have := hf.out.nb h0 g off e; have := hb2.out.size; omega⟩
          have hbz : Hid (Below w.heap.size w (w4.alloc (.cells cs 34))) := Lib.hid (belS (belS hb.out hb14.out) hb5)
          have hle : w.heap.size ≤ (w4.alloc (.cells cs 34)).heap.size := hbz.out.size
          have hlo := Lib.hid (fun k hk => (ho5.lt k hk).1)
          clear ho4 hb5 hb14 hb13 hb4 hb3a hN3 hK4 hs4
          go_wp2_with (first
            | (refine wpList_blk_load rfl (.tmp 10) rfl Tryz.underlying34 rfl rfl hX4 hIE ?_)
            | (refine wpList_buildSlice1 rfl 42 34 (.tmp 35) rfl Tryz.eveE (by decide) rfl hcl ?_)
            | (refine wpList_append_apart Tryz.eveE rfl (.tmp 34) (.tmp 36) rfl ho5 rfl hr5 (by decide) rfl h1l (by unfold maxLen; omega) (by omega) hle ?_; intro v' w6 ho6 hg6 hv6))
          obtain ⟨ne, hne⟩ : ∃ z : Er, z = ⟨parX a, da, (parX a).m.deps.length, dc, na, (parX a).names.length, nc⟩ := ⟨_, rfl⟩
          have hne2 : erC ne = cs.toList := by rw [hne, hcs.out]; rfl
          rw [← hne] at hN5
          have hnx : ne.x = y := by rw [hne]; exact hxy.out
          rw [← hne2] at ho6
          have hb7 := Lib.hid (hbz.out.grown hg6 hle hlo.out)
          have hF6 := Lib.hid (fun (x : Er) (hx : x ∈ l ++ [ne]) => by
            rcases List.mem_append.1 hx with hx | hx
            · exact (hF5.out x hx).grown hg6 hv6
            · obtain rfl := List.mem_singleton.1 hx
              exact hN5.out.grown hg6 hv6)
          replace ho6 := Lib.hid ho6
          replace hnx := Lib.hid hnx
          clear ho5 hr5 hle h1l hIE h1c h19 hset hcl hg6 hv6 hne hne2 hX4 hN5
          go_roundw
          case rel => exact ⟨r, l ++ [ne], rfl, (by first | rfl | go_num | (rw [List.length_append]; go_num)), Lib.hid (by have := hln.out; rw [List.length_append]; simp; omega), Lib.hid (by
            rw [hal.out]
            show conA _ (conA [y] _) = _
            rw [conA_conA, List.map_append, List.map_singleton, hnx.out, List.length_append]
            try rfl), Lib.hid (by rw [List.length_append, List.flatMap_append, List.flatMap_singleton]; exact ho6.out), hF6, hb7⟩
          case measure =>
            show (mkB r).size < S.size
            rw [hSz.out, mkB_size]
            omega
        · obtain ⟨hp0, hp4⟩ := parE_ne h0
          have hz : Hid (allT (pcs 10 s) 1 = (none, l.length + 1)) := Lib.hid (by rw [hal.out, hp0]; try rfl)
          clear hal hqq h0 HP2
          rw [hp4]
          have hb13 := Lib.hid (belS hb2.out hb3.out)
          go_wp2_with (first
            | (refine wpList_blk_put (cs := cs) rfl (.tmp 10) (.tmp 25) rfl rfl rfl hN3 hIE h19 h1c ?_; intro w4 hX4 hK4 hs4; rw [hset] at hX4; have hb4 := Lib.hid (Kp.below hb3a hK4 (Nat.le_refl _) hb3a.size)))
          refine bodyPost_ret (v := .tuple #[.slice none 0 0, .int .i64 ((l.length : Int) + 1), .int .i64 4]) (by simp [results, Tryz.results12, go_sem]) rfl ?_
          exact ⟨PAll.no hz.out (by simp), belS hb.out (belS hb13.out hb4.out)⟩
      · rw [cut_none h10] at hC
        rw [pcs_noc h10] at hal
        have HP := Lib.hid (fun (W : World) (hb1 : Below w1.heap.size w1 W) => parse_any t (by have := hln.out; omega) W (hT1.out.on hb1))
        have hz : Hid (allT (pcs 10 s) 1 = (none, l.length + 1)) := Lib.hid (by rw [hal.out]; simp [allT, ht, conA])
        clear ht hpos h10 hal
        go_wp2_with fail
        refine hC.out.mono ?_
        rintro e w2 ⟨rfl, nd, rfl⟩
        have hb2 := Lib.hid (belN (Below.refl w1.heap.size w1) nd)
        generalize w1.drewN nd = w2 at *
        clear hC
        have HP2 := Lib.hid (HP.out _ hb2.out)
        clear HP
        go_wp2_with fail
        refine HP2.out.mono ?_
        rintro e w3 ⟨⟨da, dc, na, nc, rfl, hf⟩, hb3⟩
        obtain ⟨cs, hcs⟩ : ∃ z, z = (evC (parX t) da (parX t).m.deps.length dc na (parX t).names.length nc) := ⟨_, rfl⟩
        have hIE : (Tryz.prog.info? 34).map (·.size) = some cs.size := by rw [hcs]; exact Tryz.evI
        have h1c : cs.all (·.oneCell') = true := by rw [hcs]; exact evC_one _ _ _ _ _ _ _
        have h19 : 0 + cs.size ≤ 19 := by rw [hcs, evC_size]; decide
        have hset : setArr #[.int .i64 0, .int .i64 0, .int .u64 0, .int .i64 0, .int .u64 0, .int .i64 0, .int .u64 0, .int .i64 0, .int .u32 0, .int .u64 0, .int .i64 0, .slice none 0 0, .string ⟨#[]⟩, .int .u64 0, .int .u64 0, .int .i64 0, .int .u64 0, .slice none 0 0, .string ⟨#[]⟩] 0 cs.toList = cs := by rw [hcs]; exact evC_set _ _ _ _ _ _ _
        have hcl : cs.toList.length = 19 := by rw [hcs]; rfl
        rw [← hcs]
        replace hcs := Lib.hid hcs
        have hN3 := BlkAt.new w3 34 #[.int .i64 0, .int .i64 0, .int .u64 0, .int .i64 0, .int .u64 0, .int .i64 0, .int .u64 0, .int .i64 0, .int .u32 0, .int .u64 0, .int .i64 0, .slice none 0 0, .string ⟨#[]⟩, .int .u64 0, .int .u64 0, .int .i64 0, .int .u64 0, .slice none 0 0, .string ⟨#[]⟩]
        have hb3a := alloc_below w3 (.cells #[.int .i64 0, .int .i64 0, .int .u64 0, .int .i64 0, .int .u64 0, .int .i64 0, .int .u64 0, .int .i64 0, .int .u32 0, .int .u64 0, .int .i64 0, .slice none 0 0, .string ⟨#[]⟩, .int .u64 0, .int .u64 0, .int .i64 0, .int .u64 0, .slice none 0 0, .string ⟨#[]⟩] 34)
        replace hb3 := Lib.hid hb3
        have hb13 := Lib.hid (belS hb2.out hb3.out)
        clear HP2 hf
        go_wp2_with (first
          | (refine wpList_blk_put (cs := cs) rfl (.tmp 10) (.tmp 25) rfl rfl rfl hN3 hIE h19 h1c ?_; intro w4 hX4 hK4 hs4; rw [hset] at hX4; have hb4 := Lib.hid (Kp.below hb3a hK4 (Nat.le_refl _) hb3a.size)))
        refine bodyPost_ret (v := .tuple #[.slice none 0 0, .int .i64 ((l.length : Int) + 1), .int .i64 4]) (by simp [results, Tryz.results12, go_sem]) rfl ?_
        exact ⟨PAll.no hz.out (by simp), belS hb.out (belS hb13.out hb4.out)⟩
end Go.Proofs.YtpkknhhohbobaaaGreatDoor
