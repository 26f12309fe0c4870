/- log: the functions that Parse and ParseItem defer -/
import Derived.Test.YtdfnpaaejjediaaLogL
import Derived.Test.YtdfnpaaejjediaaLogF
namespace Go.Proofs.Ytdfnpaaejjediaa
open Go.RowKit

def zST : Array Value := #[.int .u64 0, .int .u32 0, .int .u64 0, .int .u64 0, .int .i64 0, .int .u64 0, .slice none 0 0]
def zIT : Array Value := #[.int .i64 0, .string ⟨#[]⟩, .int .u32 0, .int .u64 0, .bool false, .bool false, .int .u64 0, .int .u64 0, .int .i64 0, .int .u64 0, .slice none 0 0, .int .u64 0, .int .u64 0, .int .i64 0, .int .u64 0, .int .u64 0, .int .i64 0, .int .i64 0]
theorem Try.stZ : (Try.prog.info? 32).map (·.zero) = some (some (.agg zST)) := by kernel_rfl
theorem Try.itZ : (Try.prog.info? 34).map (·.zero) = some (some (.agg zIT)) := by kernel_rfl
theorem Try.stI : (Try.prog.info? 32).map (·.size) = some 7 := by kernel_rfl
theorem Try.itI : (Try.prog.info? 34).map (·.size) = some 18 := by kernel_rfl
theorem Try.stB0 : Try.prog.built 32 [] = some zST := by kernel_rfl
theorem Try.itB0 : Try.prog.built 34 [] = some zIT := by kernel_rfl
theorem zST_one : zST.all (·.oneCell') = true := by simp [zST, Value.oneCell']
theorem zIT_one : zIT.all (·.oneCell') = true := by simp [zIT, Value.oneCell']
/-- The results' blocks are as the deferred function leaves them. -/
def CP (p q : Nat) (t : TypeId) (z : Array Value) (e : Int) (w w' : World) : Prop := ∃ w4, BlkAt w4 p t z ∧ Kp p w w4 ∧ w' = w4.setCell ⟨q, 0, none⟩ (.int .i64 e)
def PMode (e : Int) (r : Bool) (older : List PanicEntry) : FrameMode := .panicking ({ v := .iface 36 (.int .i64 e), recovered := r } :: older)
set_option maxHeartbeats 1000000 in
theorem catchS_err (p q : Nat) (old : Array Value) (hsz : old.size = 7) (y : Value) (e : Int) (he : e ≠ 0) (older : List PanicEntry) (w : World) (hB : BlkAt w p 32 old) (hE : BlkAt w q 36 #[y]) (hne : p ≠ q) :
    CallsD Try.prog 34 #[.pointer (some ⟨p, 0, none⟩), .pointer (some ⟨q, 0, none⟩)] (PMode e false older) w fun x u' w' =>
      x = .returned (.tuple #[]) ∧ u' = PMode e true older ∧ CP p q 32 zST e w w' := by
  have heI : (e == 0) = false := by rw [beq_eq_false_iff_ne]; exact he
  refine callsD_of_wpS Try.func34 rfl fun c₀ cs hu => ?_
  unfold PMode at hu
  apply wpS_seq
  apply wpS_region
  simp [wpOpsS, go_sem, recoverD, hu, Try.ntmps34, Exit.thenS, Array.replicate, List.replicate]
  refine (caught_err e w).mono ?_
  rintro x w1 ⟨rfl, rfl⟩
  simp [wpOpsS, go_sem, Exit.thenS]
  refine wpS_of_wp ?_
  go_wp2_with (first
    | (refine wpList_blk_build rfl #[] rfl (by rw [List.map_toArray]; exact Try.stB0) ?_)
    | (refine wpList_blk_store rfl (.tmp 0) (.tmp 7) rfl rfl rfl hB Try.stI hsz zST_one ?_; intro w4 hB4 hK4 hs4; have hE4 := hK4.blk hE (fun h => hne h.symm); have q0 : w4.cell? ⟨q, 0, none⟩ = some y := hE4.cell rfl; have f0 := hE4.fz 0; have HC : CP p q 32 zST e w (w4.setCell ⟨q, 0, none⟩ (.int .i64 e)) := ⟨w4, hB4, hK4, rfl⟩; clear hB4 hK4 hs4 hE4))
  cases c₀
  simp_all [bodyPostS, results, Try.results34, PMode]
set_option maxHeartbeats 1000000 in
theorem catchS_idle (p q : Nat) (w : World) :
    CallsD Try.prog 34 #[.pointer (some ⟨p, 0, none⟩), .pointer (some ⟨q, 0, none⟩)] .returning w fun x u' w' => x = .returned (.tuple #[]) ∧ u' = .returning ∧ w' = w := by
  refine callsD_of_wpS Try.func34 rfl fun c₀ cs hu => ?_
  apply wpS_seq
  apply wpS_region
  simp [wpOpsS, go_sem, recoverD, hu, Try.ntmps34, Exit.thenS, Array.replicate, List.replicate]
  refine (caught_nil w).mono ?_
  rintro x w1 ⟨rfl, rfl⟩
  simp [wpOpsS, go_sem, Exit.thenS]
  refine wpS_of_wp ?_
  go_wp2
  cases c₀
  simp_all [bodyPostS, results, Try.results34]
set_option maxHeartbeats 1000000 in
theorem catchT_err (p q : Nat) (old : Array Value) (hsz : old.size = 18) (y : Value) (e : Int) (he : e ≠ 0) (older : List PanicEntry) (w : World) (hB : BlkAt w p 34 old) (hE : BlkAt w q 36 #[y]) (hne : p ≠ q) :
    CallsD Try.prog 42 #[.pointer (some ⟨p, 0, none⟩), .pointer (some ⟨q, 0, none⟩)] (PMode e false older) w fun x u' w' =>
      x = .returned (.tuple #[]) ∧ u' = PMode e true older ∧ CP p q 34 zIT e w w' := by
  have heI : (e == 0) = false := by rw [beq_eq_false_iff_ne]; exact he
  refine callsD_of_wpS Try.func42 rfl fun c₀ cs hu => ?_
  unfold PMode at hu
  apply wpS_seq
  apply wpS_region
  simp [wpOpsS, go_sem, recoverD, hu, Try.ntmps42, Exit.thenS, Array.replicate, List.replicate]
  refine (caught_err e w).mono ?_
  rintro x w1 ⟨rfl, rfl⟩
  simp [wpOpsS, go_sem, Exit.thenS]
  refine wpS_of_wp ?_
  go_wp2_with (first
    | (refine wpList_blk_build rfl #[] rfl (by rw [List.map_toArray]; exact Try.itB0) ?_)
    | (refine wpList_blk_store rfl (.tmp 0) (.tmp 7) rfl rfl rfl hB Try.itI hsz zIT_one ?_; intro w4 hB4 hK4 hs4; have hE4 := hK4.blk hE (fun h => hne h.symm); have q0 : w4.cell? ⟨q, 0, none⟩ = some y := hE4.cell rfl; have f0 := hE4.fz 0; have HC : CP p q 34 zIT e w (w4.setCell ⟨q, 0, none⟩ (.int .i64 e)) := ⟨w4, hB4, hK4, rfl⟩; clear hB4 hK4 hs4 hE4))
  cases c₀
  simp_all [bodyPostS, results, Try.results42, PMode]
set_option maxHeartbeats 1000000 in
theorem catchT_idle (p q : Nat) (w : World) :
    CallsD Try.prog 42 #[.pointer (some ⟨p, 0, none⟩), .pointer (some ⟨q, 0, none⟩)] .returning w fun x u' w' => x = .returned (.tuple #[]) ∧ u' = .returning ∧ w' = w := by
  refine callsD_of_wpS Try.func42 rfl fun c₀ cs hu => ?_
  apply wpS_seq
  apply wpS_region
  simp [wpOpsS, go_sem, recoverD, hu, Try.ntmps42, Exit.thenS, Array.replicate, List.replicate]
  refine (caught_nil w).mono ?_
  rintro x w1 ⟨rfl, rfl⟩
  simp [wpOpsS, go_sem, Exit.thenS]
  refine wpS_of_wp ?_
  go_wp2
  cases c₀
  simp_all [bodyPostS, results, Try.results42]
end Go.Proofs.Ytdfnpaaejjediaa
