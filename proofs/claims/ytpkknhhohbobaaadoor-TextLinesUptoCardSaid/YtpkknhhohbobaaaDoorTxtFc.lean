/- text: what the row's list gives; a world that holds it -/
import Derived.Test.YtpkknhhohbobaaaDoorTxtFb
import Derived.Test.YtpkknhhohbobaaaDoorShelf
import Derived.Deep.DeepHandedRow
import Derived.Lib.LaidTab
import Derived.LaidLaws
import Derived.Stop.LaidErr
namespace Go.Proofs.YtpkknhhohbobaaaDoor
set_option linter.unusedSimpArgs false
set_option linter.unusedVariables false
open Go.RowKit
theorem gPow : Tryd.prog.globalNamed "internal/strconv.uint64pow10" = some 1 := by kernel_rfl
theorem gPowType : (Tryd.prog.globals[1]?).map (·.type) = some 133 := by kernel_rfl
theorem gES : Tryd.prog.globalNamed "strconv.ErrSyntax" = some 4 := by kernel_rfl
theorem gESType : (Tryd.prog.globals[4]?).map (·.type) = some 71 := by kernel_rfl
theorem gER : Tryd.prog.globalNamed "strconv.ErrRange" = some 5 := by kernel_rfl
theorem gERType : (Tryd.prog.globals[5]?).map (·.type) = some 71 := by kernel_rfl
theorem cellsPow : Tryd.prog.cellsOf 133 = 20 := by kernel_rfl
theorem cellsU64 : Tryd.prog.cellsOf 22 = 1 := by kernel_rfl
theorem cellsES : Tryd.prog.cellsOf 155 = 1 := by kernel_rfl
theorem cellsStr : Tryd.prog.cellsOf 9 = 1 := by kernel_rfl
theorem starES : "*" ++ "errors.errorString" = "*errors.errorString" := by decide
theorem rowPES (u : TypeId) (h : Tryd.prog.typeName? 3 u = some "*errors.errorString") : u = 153 :=
  typeName_ptr_named (nm := "errors.errorString") (by rw [starES]; kernel_rfl) (by kernel_rfl) (by decide) u (by rw [starES]; exact h)
theorem g64 : Tryd.prog.globalNamed "math/bits.deBruijn64tab" = some 7 := by kernel_rfl
theorem g64Type : (Tryd.prog.globals[7]?).map (·.type) = some 152 := by kernel_rfl
theorem cells64 : Tryd.prog.cellsOf 152 = 64 := by kernel_rfl
theorem cellsU8 : Tryd.prog.cellsOf 5 = 1 := by kernel_rfl
def tab64L : List Int := [0, 1, 56, 2, 57, 49, 28, 3, 61, 58, 42, 50, 38, 29, 17, 4, 62, 47, 59, 36, 45, 43, 51, 22, 53, 39, 33, 30, 24, 18, 12, 5, 63, 55, 48, 27, 60, 41, 37, 16, 46, 35, 44, 21, 52, 32, 23, 11, 54, 26, 40, 15, 34, 20, 31, 10, 25, 14, 19, 9, 13, 8, 7, 6]
/-- The list of the rows. -/
def laidL : List (String × DataW Unit) := Rows.textPrintsUptoRow.laid
theorem tl_of {W : World} (h : laidMetH Tryd.prog laidL W) (hs : W.ShapedOpen Tryd.prog) : TL W := by
  have h0 : laidMet Tryd.prog laidL W := h
  have h1 : laidMet Tryd.prog _ W := h0.tail
  have h2 : laidMet Tryd.prog _ W := h1.tail
  have h3 : laidMet Tryd.prog _ W := h2.tail
  have h4 : laidMet Tryd.prog _ W := h3.tail
  have h5 : laidMet Tryd.prog _ W := h4.tail
  obtain ⟨m, hm⟩ : ∃ m, W.cell? ⟨0, 0, none⟩ = some (.int .i64 m) := Tryd.laysM145.s1_3 W hs
  have ht : Lib.TabIs Tryd.prog W "internal/strconv.uint64pow10" .u64 Lib.pow10Tab := Lib.tabIs_of_head gPow gPowType Tryd.underlying133 Tryd.underlying22 cellsU64 cellsPow h2
  obtain ⟨a0, s0, hv0, -⟩ := laid_sentinel h4 gER gERType Tryd.underlying71 rowPES Tryd.underlying153 Tryd.underlying155 rfl rfl Tryd.underlying9 cellsES cellsStr
  obtain ⟨a1, s1, hv1, -⟩ := laid_sentinel h5 gES gESType Tryd.underlying71 rowPES Tryd.underlying153 Tryd.underlying155 rfl rfl Tryd.underlying9 cellsES cellsStr
  have ht7 : Lib.TabIs Tryd.prog W "math/bits.deBruijn64tab" .u8 tab64L := Lib.tabIs_of_head (rest := _) g64 g64Type Tryd.underlying152 Tryd.underlying5 cellsU8 cells64 h1
  have hlt := World.block_lt_of_cell? W ⟨7, 0, none⟩ (ht7.cell g64 0 (by decide))
  exact ⟨by simp only at hlt; omega, ht, ⟨m, hm⟩, ⟨_, _, hv1⟩, ⟨_, _, hv0⟩⟩
/-- So many blocks has the settled world. -/
noncomputable def lowW : Nat := (World.holding Tryd.prog default ⟨#[], #[], []⟩).heap.size
def putC (cs : Array Value) : Obj → Obj
  | .cells _ t frozen => .cells cs t frozen
  | o => o
/-- A world that holds the list. -/
noncomputable def laidWorld (os : Os) : World :=
  let w0 := World.holding Tryd.prog os ⟨#[.cells #[.string ⟨#[118, 97, 108, 117, 101, 32, 111, 117, 116, 32, 111, 102, 32, 114, 97, 110, 103, 101]⟩] 155, .cells #[.string ⟨#[105, 110, 118, 97, 108, 105, 100, 32, 115, 121, 110, 116, 97, 120]⟩] 155], #[], []⟩
  { w0 with heap := ((((((w0.heap.modify 6 (putC #[.int .u8 0, .int .u8 1, .int .u8 28, .int .u8 2, .int .u8 29, .int .u8 14, .int .u8 24, .int .u8 3, .int .u8 30, .int .u8 22, .int .u8 20, .int .u8 15, .int .u8 25, .int .u8 17, .int .u8 4, .int .u8 8, .int .u8 31, .int .u8 27, .int .u8 13, .int .u8 23, .int .u8 21, .int .u8 19, .int .u8 16, .int .u8 7, .int .u8 26, .int .u8 12, .int .u8 18, .int .u8 6, .int .u8 11, .int .u8 5, .int .u8 10, .int .u8 9])).modify 7 (putC #[.int .u8 0, .int .u8 1, .int .u8 56, .int .u8 2, .int .u8 57, .int .u8 49, .int .u8 28, .int .u8 3, .int .u8 61, .int .u8 58, .int .u8 42, .int .u8 50, .int .u8 38, .int .u8 29, .int .u8 17, .int .u8 4, .int .u8 62, .int .u8 47, .int .u8 59, .int .u8 36, .int .u8 45, .int .u8 43, .int .u8 51, .int .u8 22, .int .u8 53, .int .u8 39, .int .u8 33, .int .u8 30, .int .u8 24, .int .u8 18, .int .u8 12, .int .u8 5, .int .u8 63, .int .u8 55, .int .u8 48, .int .u8 27, .int .u8 60, .int .u8 41, .int .u8 37, .int .u8 16, .int .u8 46, .int .u8 35, .int .u8 44, .int .u8 21, .int .u8 52, .int .u8 32, .int .u8 23, .int .u8 11, .int .u8 54, .int .u8 26, .int .u8 40, .int .u8 15, .int .u8 34, .int .u8 20, .int .u8 31, .int .u8 10, .int .u8 25, .int .u8 14, .int .u8 19, .int .u8 9, .int .u8 13, .int .u8 8, .int .u8 7, .int .u8 6])).modify 1 (putC #[.int .u64 1, .int .u64 10, .int .u64 100, .int .u64 1000, .int .u64 10000, .int .u64 100000, .int .u64 1000000, .int .u64 10000000, .int .u64 100000000, .int .u64 1000000000, .int .u64 10000000000, .int .u64 100000000000, .int .u64 1000000000000, .int .u64 10000000000000, .int .u64 100000000000000, .int .u64 1000000000000000, .int .u64 10000000000000000, .int .u64 100000000000000000, .int .u64 1000000000000000000, .int .u64 10000000000000000000])).modify 3 (putC #[.int .u8 128, .int .u8 191, .int .u8 160, .int .u8 191, .int .u8 128, .int .u8 159, .int .u8 144, .int .u8 191, .int .u8 128, .int .u8 143, .int .u8 0, .int .u8 0, .int .u8 0, .int .u8 0, .int .u8 0, .int .u8 0, .int .u8 0, .int .u8 0, .int .u8 0, .int .u8 0, .int .u8 0, .int .u8 0, .int .u8 0, .int .u8 0, .int .u8 0, .int .u8 0, .int .u8 0, .int .u8 0, .int .u8 0, .int .u8 0, .int .u8 0, .int .u8 0])).modify 2 (putC (Pinned.utf8FirstZ.map fun z : Nat => Value.int .u8 (z : Int)).toArray)).modify 5 (putC #[.iface 153 (.pointer (some ⟨lowW, 0, none⟩))])).modify 4 (putC #[.iface 153 (.pointer (some ⟨lowW + 1, 0, none⟩))]) }
theorem laidW_met (os : Os) (args : Array Value) : laidMet Tryd.prog laidL ((laidWorld os).forCall (fun _ _ => 0) ⟨#[], args, []⟩).memory :=
  laidMet_of_run' 8 (by kernel_rfl) (by kernel_rfl)
end Go.Proofs.YtpkknhhohbobaaaDoor
