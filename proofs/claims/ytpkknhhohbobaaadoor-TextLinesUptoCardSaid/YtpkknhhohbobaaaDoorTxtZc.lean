/- text: TextPrints -/
import Derived.Test.YtpkknhhohbobaaaDoorTxtZb
namespace Go.Proofs.YtpkknhhohbobaaaDoor
set_option linter.unusedSimpArgs false
set_option linter.unusedVariables false
open Go.RowKit Go.Sort
theorem flatMap_erC1 (e : Er) : [e].flatMap erC = erC e := by simp
set_option maxHeartbeats 6400000 in
set_option maxRecDepth 100000 in
theorem prints_law {x : TEv} {da na : Option Addr} {dn dc nn nc : Nat} {w : World} (hE : EvR w x da dn dc na nn nc) (hT : TL w) :
    Calls Tryd.prog 3 #[.agg (evC x da dn dc na nn nc)] w fun e w' => e = .returned (.bool true) ∧ Below w.heap.size w w' := by
  have hb0 := alloc_below w (.cells (evC x da dn dc na nn nc) 33)
  have hX := BlkAt.new w 33 (evC x da dn dc na nn nc)
  obtain ⟨w0, hw0⟩ : ∃ z, z = w.alloc (.cells (evC x da dn dc na nn nc) 33) := ⟨_, rfl⟩
  rw [← hw0] at hb0 hX
  have HA := Lib.hid (awake_any w0 (hT.on hb0))
  have HP := Lib.hid (fun (W : World) (hb : Below w.heap.size w W) => print_any (hE.below hb) (hT.on hb))
  have HR := Lib.hid (fun (W : World) (hb : Below w.heap.size w W) => rprint_any (hE.below hb))
  obtain ⟨xb, hxb⟩ : ∃ z, z = w.heap.size := ⟨_, rfl⟩
  rw [← hxb] at hX
  obtain ⟨cs, hcs⟩ : ∃ z, z = (evC x da dn dc na nn nc) := ⟨_, rfl⟩
  have hcl : cs.toList.length = 19 := by rw [hcs]; rfl
  have hce : erC ⟨x, da, dn, dc, na, nn, nc⟩ = cs.toList := by rw [hcs]; rfl
  have hIE : (Tryd.prog.info? 33).map (·.size) = some cs.size := by rw [hcs]; exact Tryd.evI
  rw [← hcs] at hX HP hw0 ⊢
  rw [← hcs] at HR
  replace hw0 := Lib.hid hw0
  replace hxb := Lib.hid hxb
  replace hX := Lib.hid hX
  replace hb0 := Lib.hid hb0
  clear hT hE hcs
  go_enter Tryd.func3, Tryd.ntmps3
  go_upto_region 1 with (first | (refine wpList_blk_box rfl (.tmp 0) rfl rfl xb hxb.out.symm ?_; rw [← hw0.out]))
  go_wp2_with fail
  refine HA.out.mono ?_
  rintro e w1 ⟨rfl, hb1⟩
  have hX1 := hX.out.below hb1 hX.out.lt
  have hB1 := Lib.hid (belS hb0.out hb1)
  have hb2 := alloc_below w1 (.cells cs 33)
  have hr2 : Rd (w1.alloc (.cells cs 33)) 19 (some ⟨w1.heap.size, 0, none⟩) 1 1 cs.toList := rd_newn rfl hcl
  rw [← hce, ← flatMap_erC1] at hr2
  have HF := Lib.hid (few_any _ 1 1 [⟨x, da, dn, dc, na, nn, nc⟩] _ hr2)
  have hX2 := Lib.hid (hX1.below hb2 hX1.lt)
  have hB2 := Lib.hid (belS hB1.out hb2)
  clear HA hb1 hr2 hb2 hX hb0 hB1
  go_wp2_with (first
    | (refine wpList_blk_load rfl (.tmp 1) rfl Tryd.underlying33 rfl rfl hX1 hIE ?_)
    | (refine wpList_buildSlice1 rfl 36 33 (.tmp 9) rfl Tryd.eveE (by decide) rfl hcl ?_))
  refine HF.out.mono ?_
  rintro e w3 ⟨rfl | rfl, hb3⟩
  · have hB3 := Lib.hid (belS hB2.out hb3)
    have hX3 := hX2.out.below hb3 hX2.out.lt
    have HP3 := Lib.hid (HP.out _ hB3.out)
    clear HF hX2 hB2 hX1 HP
    go_wp2_with (first
      | (refine wpList_blk_load rfl (.tmp 1) rfl Tryd.underlying33 rfl rfl hX3 hIE ?_))
    refine HP3.out.mono ?_
    rintro e w4 ⟨rfl, hb4⟩
    have hB4 := Lib.hid (belS hB3.out hb4)
    have hX4 := hX3.below hb4 hX3.lt
    have HR4 := Lib.hid (HR.out _ hB4.out)
    clear HP3 hX3 hb3 hb4 hB3 HR
    go_wp2_with (first
      | (refine wpList_blk_load rfl (.tmp 1) rfl Tryd.underlying33 rfl rfl hX4 hIE ?_))
    refine HR4.out.mono ?_
    rintro e w5 ⟨rfl, hb5⟩
    have hB5 := Lib.hid (belS hB4.out hb5)
    clear HR4 hX4 hb5 hB4
    generalize prS x = S
    generalize evE x = E
    go_wp2
    go_ret
    exact ⟨rfl, hB5.out⟩
  · have hB3 := Lib.hid (belS hB2.out hb3)
    clear HF hX2 hX1 HP HR
    go_wp2
    go_ret
    exact ⟨rfl, hB3.out⟩
theorem erC_arr {cs : Array Value} {e : Er} (h : cs.toList = erC e) : cs = evC e.x e.da e.dn e.dc e.na e.nn e.nc := by
  rw [← Array.toArray_toList (xs := cs), h]
  exact Array.toArray_toList
theorem prints_claim (cs : Array Value) (w : World) (hT : TL w) (h : ∃ e : Er, cs.toList = erC e ∧ EvR w e.x e.da e.dn e.dc e.na e.nn e.nc) :
    Calls Tryd.prog 3 #[.agg cs] w fun e w' => e = .returned (.bool true) ∧ Below w.heap.size w w' := by
  obtain ⟨e, he, hr⟩ := h
  rw [erC_arr he]
  exact prints_law hr hT
end Go.Proofs.YtpkknhhohbobaaaDoor
