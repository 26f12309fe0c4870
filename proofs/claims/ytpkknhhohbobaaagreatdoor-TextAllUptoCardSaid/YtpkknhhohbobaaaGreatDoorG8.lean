/- text: TextAll; text: what the row's list gives; a world that holds it -/
import Derived.Test.YtpkknhhohbobaaaGreatDoorTxtRlQ
import Derived.Test.YtpkknhhohbobaaaGreatDoorG5
import Derived.Test.YtpkknhhohbobaaaGreatDoorG3
import Derived.Test.YtpkknhhohbobaaaGreatDoorTxtD
import Derived.Test.YtpkknhhohbobaaaGreatDoorRows
import Derived.Test.YtpkknhhohbobaaaGreatDoorShelf
import Derived.Deep.DeepHandedRow
import Derived.Lib.LaidTab
import Derived.LaidLaws
import Derived.Stop.LaidErr
namespace Go.Proofs.YtpkknhhohbobaaaGreatDoor
set_option linter.unusedSimpArgs false
set_option linter.unusedVariables false
open Go.RowKit Go.Sort
def allY (s : W8) : List TEv := (allT (pcs 10 s) 1).1.getD []
def allK (s : W8) : Nat := if (allT (pcs 10 s) 1).1.isSome then 0 else (allT (pcs 10 s) 1).2
def allE (s : W8) : Int := if (allT (pcs 10 s) 1).1.isSome then 0 else 4
theorem PAll.all {s : W8} {B : Nat} {e : Ending} {w' : World} (h : PAll s B e w') : ∃ (a : Option Addr) (n c : Nat) (L : List Er), e = .returned (.tuple #[.slice a n c, .int .i64 (allK s : Nat), .int .i64 (allE s)]) ∧ L.map (·.x) = allY s ∧ Rd w' 19 a n c (L.flatMap erC) ∧ ∀ x ∈ L, ErD w' x := by
  unfold PAll at h
  unfold allK allE allY
  generalize allT (pcs 10 s) 1 = r at *
  obtain ⟨o, k⟩ := r
  cases o with
  | none => exact ⟨none, 0, 0, [], h, rfl, Rd.mk_nil _ _, fun x hx => by cases hx⟩
  | some ys =>
    obtain ⟨a, c, L, he, hm, hr, hF, -⟩ := h
    exact ⟨a, L.length, c, L, he, hm, hr, fun x hx => (hF x hx).d⟩
set_option maxHeartbeats 6400000 in
set_option maxRecDepth 100000 in
theorem all_law (l : List Er) (a : Option Addr) (n c : Nat) (s : ByteArray) (w : World) (hr : Rd w 19 a n c (l.flatMap erC)) (hE : ∀ e ∈ l, EvR w e.x e.da e.dn e.dc e.na e.nn e.nc) (hT : TL w) :
    Calls Tryz.prog 4 #[.slice a n c, .string s] w fun e w' => e = .returned (.bool true) ∧ Below w.heap.size w w' := by
  have HA := Lib.hid (awake_any w hT)
  have HF := Lib.hid (fun (W : World) (hb : Below w.heap.size w W) => few_any a n c l W (hr.below hb (Nat.le_refl _)))
  by_cases hn : 100 < n
  · have hnI : (100 : Int) < n := by omega
    clear hr hE hT
    go_enter Tryz.func4, Tryz.ntmps4
    go_wp2_with fail
    refine HA.out.mono ?_
    rintro e w1 ⟨rfl, hb1⟩
    have HF1 := Lib.hid (HF.out w1 hb1)
    replace hb1 := Lib.hid hb1
    clear HA HF
    go_wp2_with fail
    refine HF1.out.mono ?_
    rintro e w2 ⟨rfl | rfl, hb2⟩
    · go_wp2
      go_ret
      exact ⟨rfl, belS hb1.out hb2⟩
    · go_wp2
      go_ret
      exact ⟨rfl, belS hb1.out hb2⟩
  by_cases hs : 6000 < s.size
  · have hnI : ¬ (100 : Int) < n := by omega
    have hsI : (6000 : Int) < s.size := by omega
    clear hr hE hT
    go_enter Tryz.func4, Tryz.ntmps4
    go_wp2_with fail
    refine HA.out.mono ?_
    rintro e w1 ⟨rfl, hb1⟩
    have HF1 := Lib.hid (HF.out w1 hb1)
    replace hb1 := Lib.hid hb1
    clear HA HF
    go_wp2_with fail
    refine HF1.out.mono ?_
    rintro e w2 ⟨rfl | rfl, hb2⟩
    · go_wp2
      go_ret
      exact ⟨rfl, belS hb1.out hb2⟩
    · go_wp2
      go_ret
      exact ⟨rfl, belS hb1.out hb2⟩
  have hnI : ¬ (100 : Int) < n := by omega
  have hsI : ¬ (6000 : Int) < s.size := by omega
  obtain ⟨l0, hl0⟩ : ∃ z : W8, z = s.data.toList := ⟨_, rfl⟩
  have hlm : s = mkB l0 := by rw [hl0, mkB_list]
  have hll : l0.length ≤ 6000 := by
    have := mkB_size l0
    rw [← hlm] at this
    omega
  have HP := Lib.hid (fun (W : World) (hb : Below w.heap.size w W) => printall_any l a n c W (hr.below hb (Nat.le_refl _)) (fun e he => (hE e he).below hb) (by omega) (hT.on hb))
  have HR := Lib.hid (fun (W : World) (hb : Below w.heap.size w W) => rprintall_any l a n c W (hr.below hb (Nat.le_refl _)) (fun e he => (hE e he).below hb) (by omega))
  have HQ := Lib.hid (fun (W : World) (hb : Below w.heap.size w W) => parseall_any l0 (by omega) W (hT.on hb))
  have HS := Lib.hid (fun (W : World) => rparseall_any l0 (by omega) W)
  rw [← hlm] at HQ HS
  replace hlm := Lib.hid hlm
  clear hl0 hll hr hE hT hn hs
  go_enter Tryz.func4, Tryz.ntmps4
  go_wp2_with fail
  refine HA.out.mono ?_
  rintro e w1 ⟨rfl, hb1⟩
  have HF1 := Lib.hid (HF.out w1 hb1)
  replace hb1 := Lib.hid hb1
  clear HA HF
  go_wp2_with fail
  refine HF1.out.mono ?_
  rintro e w2 ⟨rfl | rfl, hb2⟩
  · have hB2 := Lib.hid (belS hb1.out hb2)
    have HP2 := Lib.hid (HP.out _ hB2.out)
    clear HF1 hb1 hb2 HP
    go_wp2_with fail
    refine HP2.out.mono ?_
    rintro e w3 ⟨rfl, hb3⟩
    have hB3 := Lib.hid (belS hB2.out hb3)
    have HR3 := Lib.hid (HR.out _ hB3.out)
    clear HP2 hB2 hb3 HR
    generalize prAllS (l.map (·.x)) = S1 at *
    generalize prAllE (l.map (·.x)) = E1 at *
    go_wp2_with fail
    refine HR3.out.mono ?_
    rintro e w4 ⟨rfl, hb4⟩
    have hB4 := Lib.hid (belS hB3.out hb4)
    have HQ4 := Lib.hid (HQ.out _ hB4.out)
    clear HR3 hB3 hb4 HQ
    go_wp2_with fail
    refine HQ4.out.mono ?_
    rintro e w5 ⟨hp, hb5⟩
    obtain ⟨a5, n5, c5, L5, rfl, hm5, hrd5, hd5⟩ := hp.all
    have hB5 := Lib.hid (belS hB4.out hb5)
    have HS5 := Lib.hid (HS.out w5)
    replace hm5 := Lib.hid hm5
    replace hrd5 := Lib.hid hrd5
    replace hd5 := Lib.hid hd5
    clear hp hb5 HQ4 HS hB4
    go_wp2_with fail
    refine HS5.out.mono ?_
    rintro e w6 ⟨hp, hb6⟩
    obtain ⟨a6, n6, c6, L6, rfl, hm6, hrd6, hd6⟩ := hp.all
    have hB6 := Lib.hid (belS hB5.out hb6)
    have hnn : n6 = n5 := by
      have h1 := hrd6.length_eq
      have h2 := hrd5.out.length_eq
      rw [flatMap_len erC_len] at h1 h2
      have h3 := congrArg List.length (hm6.trans hm5.out.symm)
      rw [List.length_map, List.length_map] at h3
      omega
    subst hnn
    have HT := Lib.hid (traces_any L5 L6 a5 a6 n6 c5 c6 w6 (hrd5.out.below hb6 (Nat.le_refl _)) hrd6 (hm5.out.trans hm6.symm) (fun e he => (hd5.out e he).below hb6) hd6)
    clear hp hb6 HS5 hm5 hm6 hrd5 hrd6 hd5 hd6 hB5
    go_wp2_with fail
    refine HT.out.mono ?_
    rintro e w7 ⟨rfl, hb7⟩
    go_wp2
    go_ret
    exact ⟨rfl, belS hB6.out hb7⟩
  · go_wp2
    go_ret
    exact ⟨rfl, belS hb1.out hb2⟩
theorem all_claim (a : Option Addr) (n c : Nat) (s : ByteArray) (w : World) (hT : TL w) (h : ∃ l : List Er, Rd w 19 a n c (l.flatMap erC) ∧ (∀ e ∈ l, EvR w e.x e.da e.dn e.dc e.na e.nn e.nc)) (_ : s.size ≤ maxLen) :
    Calls Tryz.prog 4 #[.slice a n c, .string s] w fun e w' => e = .returned (.bool true) ∧ Below w.heap.size w w' := by
  obtain ⟨l, h1, h2⟩ := h
  exact all_law l a n c s w h1 h2 hT
end Go.Proofs.YtpkknhhohbobaaaGreatDoor
namespace Go.Proofs.YtpkknhhohbobaaaGreatDoor
set_option linter.unusedSimpArgs false
set_option linter.unusedVariables false
open Go.RowKit
theorem gPow : Tryz.prog.globalNamed "internal/strconv.uint64pow10" = some 3 := by kernel_rfl
theorem gPowType : (Tryz.prog.globals[3]?).map (·.type) = some 157 := by kernel_rfl
theorem gES : Tryz.prog.globalNamed "strconv.ErrSyntax" = some 4 := by kernel_rfl
theorem gESType : (Tryz.prog.globals[4]?).map (·.type) = some 71 := by kernel_rfl
theorem gER : Tryz.prog.globalNamed "strconv.ErrRange" = some 5 := by kernel_rfl
theorem gERType : (Tryz.prog.globals[5]?).map (·.type) = some 71 := by kernel_rfl
theorem cellsPow : Tryz.prog.cellsOf 157 = 20 := by kernel_rfl
theorem cellsU64 : Tryz.prog.cellsOf 23 = 1 := by kernel_rfl
theorem cellsES : Tryz.prog.cellsOf 167 = 1 := by kernel_rfl
theorem cellsStr : Tryz.prog.cellsOf 9 = 1 := by kernel_rfl
theorem starES : "*" ++ "errors.errorString" = "*errors.errorString" := by decide
theorem rowPES (u : TypeId) (h : Tryz.prog.typeName? 3 u = some "*errors.errorString") : u = 165 :=
  typeName_ptr_named (nm := "errors.errorString") (by rw [starES]; kernel_rfl) (by kernel_rfl) (by decide) u (by rw [starES]; exact h)
theorem g64 : Tryz.prog.globalNamed "math/bits.deBruijn64tab" = some 7 := by kernel_rfl
theorem g64Type : (Tryz.prog.globals[7]?).map (·.type) = some 169 := by kernel_rfl
theorem cells64 : Tryz.prog.cellsOf 169 = 64 := by kernel_rfl
theorem cellsU8 : Tryz.prog.cellsOf 5 = 1 := by kernel_rfl
def tab64L : List Int := [0, 1, 56, 2, 57, 49, 28, 3, 61, 58, 42, 50, 38, 29, 17, 4, 62, 47, 59, 36, 45, 43, 51, 22, 53, 39, 33, 30, 24, 18, 12, 5, 63, 55, 48, 27, 60, 41, 37, 16, 46, 35, 44, 21, 52, 32, 23, 11, 54, 26, 40, 15, 34, 20, 31, 10, 25, 14, 19, 9, 13, 8, 7, 6]
/-- The list of the rows. -/
def laidL : List (String × DataW Unit) := Rows.textParsesRow.laid
theorem tl_of {W : World} (h : laidMetH Tryz.prog laidL W) (hs : W.ShapedOpen Tryz.prog) : TL W := by
  have h0 : laidMet Tryz.prog laidL W := h
  have h1 : laidMet Tryz.prog _ W := h0.tail
  have h2 : laidMet Tryz.prog _ W := h1.tail
  have h3 : laidMet Tryz.prog _ W := h2.tail
  have h4 : laidMet Tryz.prog _ W := h3.tail
  have h5 : laidMet Tryz.prog _ W := h4.tail
  obtain ⟨m, hm⟩ : ∃ m, W.cell? ⟨0, 0, none⟩ = some (.int .i64 m) := Tryz.laysM145.s1_3 W hs
  have ht : Lib.TabIs Tryz.prog W "internal/strconv.uint64pow10" .u64 Lib.pow10Tab := Lib.tabIs_of_head gPow gPowType Tryz.underlying157 Tryz.underlying23 cellsU64 cellsPow h2
  obtain ⟨a0, s0, hv0, -⟩ := laid_sentinel h4 gER gERType Tryz.underlying71 rowPES Tryz.underlying165 Tryz.underlying167 rfl rfl Tryz.underlying9 cellsES cellsStr
  obtain ⟨a1, s1, hv1, -⟩ := laid_sentinel h5 gES gESType Tryz.underlying71 rowPES Tryz.underlying165 Tryz.underlying167 rfl rfl Tryz.underlying9 cellsES cellsStr
  have ht7 : Lib.TabIs Tryz.prog W "math/bits.deBruijn64tab" .u8 tab64L := Lib.tabIs_of_head (rest := _) g64 g64Type Tryz.underlying169 Tryz.underlying5 cellsU8 cells64 h1
  have hlt := World.block_lt_of_cell? W ⟨7, 0, none⟩ (ht7.cell g64 0 (by decide))
  exact ⟨by simp only at hlt; omega, ht, ⟨m, hm⟩, ⟨_, _, hv1⟩, ⟨_, _, hv0⟩⟩
/-- So many blocks has the settled world. -/
noncomputable def lowW : Nat := (World.holding Tryz.prog default ⟨#[], #[], []⟩).heap.size
def putC (cs : Array Value) : Obj → Obj
  | .cells _ t frozen => .cells cs t frozen
  | o => o
/-- A world that holds the list. -/
noncomputable def laidWorld (os : Os) : World :=
  let w0 := World.holding Tryz.prog os ⟨#[.cells #[.string ⟨#[118, 97, 108, 117, 101, 32, 111, 117, 116, 32, 111, 102, 32, 114, 97, 110, 103, 101]⟩] 167, .cells #[.string ⟨#[105, 110, 118, 97, 108, 105, 100, 32, 115, 121, 110, 116, 97, 120]⟩] 167], #[], []⟩
  { w0 with heap := ((((((w0.heap.modify 6 (putC #[.int .u8 0, .int .u8 1, .int .u8 28, .int .u8 2, .int .u8 29, .int .u8 14, .int .u8 24, .int .u8 3, .int .u8 30, .int .u8 22, .int .u8 20, .int .u8 15, .int .u8 25, .int .u8 17, .int .u8 4, .int .u8 8, .int .u8 31, .int .u8 27, .int .u8 13, .int .u8 23, .int .u8 21, .int .u8 19, .int .u8 16, .int .u8 7, .int .u8 26, .int .u8 12, .int .u8 18, .int .u8 6, .int .u8 11, .int .u8 5, .int .u8 10, .int .u8 9])).modify 7 (putC #[.int .u8 0, .int .u8 1, .int .u8 56, .int .u8 2, .int .u8 57, .int .u8 49, .int .u8 28, .int .u8 3, .int .u8 61, .int .u8 58, .int .u8 42, .int .u8 50, .int .u8 38, .int .u8 29, .int .u8 17, .int .u8 4, .int .u8 62, .int .u8 47, .int .u8 59, .int .u8 36, .int .u8 45, .int .u8 43, .int .u8 51, .int .u8 22, .int .u8 53, .int .u8 39, .int .u8 33, .int .u8 30, .int .u8 24, .int .u8 18, .int .u8 12, .int .u8 5, .int .u8 63, .int .u8 55, .int .u8 48, .int .u8 27, .int .u8 60, .int .u8 41, .int .u8 37, .int .u8 16, .int .u8 46, .int .u8 35, .int .u8 44, .int .u8 21, .int .u8 52, .int .u8 32, .int .u8 23, .int .u8 11, .int .u8 54, .int .u8 26, .int .u8 40, .int .u8 15, .int .u8 34, .int .u8 20, .int .u8 31, .int .u8 10, .int .u8 25, .int .u8 14, .int .u8 19, .int .u8 9, .int .u8 13, .int .u8 8, .int .u8 7, .int .u8 6])).modify 3 (putC #[.int .u64 1, .int .u64 10, .int .u64 100, .int .u64 1000, .int .u64 10000, .int .u64 100000, .int .u64 1000000, .int .u64 10000000, .int .u64 100000000, .int .u64 1000000000, .int .u64 10000000000, .int .u64 100000000000, .int .u64 1000000000000, .int .u64 10000000000000, .int .u64 100000000000000, .int .u64 1000000000000000, .int .u64 10000000000000000, .int .u64 100000000000000000, .int .u64 1000000000000000000, .int .u64 10000000000000000000])).modify 2 (putC #[.int .u8 128, .int .u8 191, .int .u8 160, .int .u8 191, .int .u8 128, .int .u8 159, .int .u8 144, .int .u8 191, .int .u8 128, .int .u8 143, .int .u8 0, .int .u8 0, .int .u8 0, .int .u8 0, .int .u8 0, .int .u8 0, .int .u8 0, .int .u8 0, .int .u8 0, .int .u8 0, .int .u8 0, .int .u8 0, .int .u8 0, .int .u8 0, .int .u8 0, .int .u8 0, .int .u8 0, .int .u8 0, .int .u8 0, .int .u8 0, .int .u8 0, .int .u8 0])).modify 1 (putC (Pinned.utf8FirstZ.map fun z : Nat => Value.int .u8 (z : Int)).toArray)).modify 5 (putC #[.iface 165 (.pointer (some ⟨lowW, 0, none⟩))])).modify 4 (putC #[.iface 165 (.pointer (some ⟨lowW + 1, 0, none⟩))]) }
theorem laidW_met (os : Os) (args : Array Value) : laidMet Tryz.prog laidL ((laidWorld os).forCall (fun _ _ => 0) ⟨#[], args, []⟩).memory :=
  laidMet_of_run' 8 (by kernel_rfl) (by kernel_rfl)
end Go.Proofs.YtpkknhhohbobaaaGreatDoor
