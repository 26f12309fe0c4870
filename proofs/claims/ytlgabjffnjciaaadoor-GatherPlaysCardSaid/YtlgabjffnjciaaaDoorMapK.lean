/- gather: maps.Keys, slices.Collect, maps.Clone (the layings: by the kit's lay-plain.mjs) -/
import Derived.Test.YtlgabjffnjciaaaDoorMapA
import Derived.Test.YtlgabjffnjciaaaDoorProg
import Derived.Shelf.SlIterI.Nil
import Derived.Shelf.SlIterI.Collect
import Derived.Shelf.SlMaps.Clone
namespace Go.Proofs.YtlgabjffnjciaaaDoor
set_option linter.unusedSimpArgs false
set_option linter.unusedVariables false
open Go.RowKit Go.Maps Go.Shelf Go.MapKept
def Tryd.keysA_ren : Go.Shelf.Ren := ⟨fun | 7 => 52 | 10 => 60 | n => n, fun | 23 => 70 | 26 => 3 | 3 => 43 | 28 => 85 | 0 => 0 | 27 => 84 | 33 => 31 | 4 => 4 | n => n, fun | n => n⟩
theorem Tryd.keysA : Go.Proofs.SlLaysZI.n7 Tryd.prog Tryd.keysA_ren := {
  mixed := by kernel_rfl
  f7 := ⟨Tryd.f52.name, by decide, Tryd.func52.trans (congrArg some (by kernel_rfl))⟩
  f10 := ⟨Tryd.f60.name, by decide, Tryd.func60.trans (congrArg some (by kernel_rfl))⟩
  t0 := Tryd.underlying0
  a0 := Tryd.isAgg0
  z0 := Tryd.sizeOf0
  v0 := Tryd.zeroValue0
  t4 := Tryd.underlying4
  a4 := Tryd.isAgg4
  z4 := Tryd.sizeOf4
  v4 := Tryd.zeroValue4
  t23 := Tryd.underlying70
  a23 := Tryd.isAgg70
  z23 := Tryd.sizeOf70
  v23 := Tryd.zeroValue70
  t26 := Tryd.underlying3
  a26 := Tryd.isAgg3
  z26 := Tryd.sizeOf3
  v26 := Tryd.zeroValue3
  t27 := Tryd.underlying84
  a27 := Tryd.isAgg84
  z27 := Tryd.sizeOf84
  v27 := Tryd.zeroValue84
  t28 := Tryd.underlying85
  a28 := Tryd.isAgg85
  z28 := Tryd.sizeOf85
  v28 := Tryd.zeroValue85
  t33 := Tryd.underlying31
  a33 := Tryd.isAgg31
  z33 := Tryd.sizeOf31
  v33 := Tryd.zeroValue31 }
def Tryd.collA_ren : Go.Shelf.Ren := ⟨fun | 8 => 51 | 11 => 59 | n => n, fun | 26 => 3 | 28 => 85 | 24 => 76 | 0 => 0 | 33 => 31 | 4 => 4 | n => n, fun | n => n⟩
theorem Tryd.collA : Go.Proofs.SlLaysZI.n8 Tryd.prog Tryd.collA_ren := {
  mixed := by kernel_rfl
  f8 := ⟨Tryd.f51.name, by decide, Tryd.func51.trans (congrArg some (by kernel_rfl))⟩
  f11 := ⟨Tryd.f59.name, by decide, Tryd.func59.trans (congrArg some (by kernel_rfl))⟩
  t0 := Tryd.underlying0
  a0 := Tryd.isAgg0
  z0 := Tryd.sizeOf0
  v0 := Tryd.zeroValue0
  t24 := Tryd.underlying76
  a24 := Tryd.isAgg76
  z24 := Tryd.sizeOf76
  v24 := Tryd.zeroValue76
  t26 := Tryd.underlying3
  a26 := Tryd.isAgg3
  z26 := Tryd.sizeOf3
  v26 := Tryd.zeroValue3
  t28 := Tryd.underlying85
  a28 := Tryd.isAgg85
  z28 := Tryd.sizeOf85
  v28 := Tryd.zeroValue85
  i26 := by kernel_rfl }
theorem keys_any (mb : Option Nat) (w : World) : Calls Tryd.prog 52 #[.map mb] w fun e w' => e = .returned (.func (.func 60) #[] #[.pointer (some ⟨w.heap.size, 0, none⟩)]) ∧ w' = w.alloc (.cells #[.map mb] 70) := by
  go_enter Tryd.func52, Tryd.ntmps52
  go_wp2
  go_ret
  exact ⟨rfl, rfl⟩
def keyI : Value → Int | .int _ a => a | _ => 0
/-- A map as the kit's words have it: each key as it is, of each element nothing. -/
theorem MapAt.owns {w : World} {b : Nat} {l : List (Int × Value)} (h : MapAt w b l) (hwf : ∀ p ∈ l, (Lit.int .i64 p.1).wf = true) (hn : l.length ≤ maxLen) :
    ∃ D0 : DataW Unit, w.ownsMap Tryd.prog 3 (fun _ => some (.nil, [])) b l.length D0 ∧ Maps.size D0 = l.length ∧ (intKeys D0).Perm (l.map (·.1)) := by
  obtain ⟨es, clock, hb, hs, hm⟩ := h
  have hlen : es.size = l.length := by have := congrArg List.length hm; simpa using this
  have hrd : ∀ x ∈ es.toList, ∃ k, x.key = .int .i64 k ∧ WideElems.rd (H := Unit) Tryd.prog 3 (fun _ => some (.nil, [])) x = some (.int .i64 k, .nil) := by
    intro x hx
    have : x.key ∈ es.toList.map (·.key) := List.mem_map.2 ⟨x, hx, rfl⟩
    rw [keys_of hm] at this
    obtain ⟨p, hp, e⟩ := List.mem_map.1 this
    refine ⟨p.1, e.symm, ?_⟩
    unfold WideElems.rd
    rw [← e, Maps.keyOf_int_mk Tryd.underlying3 (hwf p hp)]
    rfl
  refine ⟨_, ⟨es, clock, hb, ⟨by omega, hs, fun x hx => by obtain ⟨k, _, h⟩ := hrd x hx; exact ⟨_, h⟩⟩, by omega, rfl⟩, ?_, ?_⟩
  · show ((es.toList.map _).foldr DataW.insert []).length = _
    rw [length_sorted]
    simpa using hlen
  · have h1 := (WideShapes.sorted_perm (es.toList.map (WideElems.rg (H := Unit) Tryd.prog 3 (fun _ => some (.nil, []))))).map (fun p => Go.intOf p.1)
    refine h1.trans ?_
    rw [List.map_map]
    have h2 : es.toList.map ((fun p => Go.intOf p.1) ∘ WideElems.rg (H := Unit) Tryd.prog 3 (fun _ => some (.nil, []))) = l.map (·.1) := by
      have e1 : es.toList.map ((fun p => Go.intOf p.1) ∘ WideElems.rg (H := Unit) Tryd.prog 3 (fun _ => some (.nil, []))) = (es.toList.map (·.key)).map keyI := by
        rw [List.map_map]
        refine List.map_congr_left (fun x hx => ?_)
        obtain ⟨k, hk, hr⟩ := hrd x hx
        simp [WideElems.rg, hr, Go.intOf, hk, keyI]
      rw [e1, keys_of hm, List.map_map]
      exact List.map_congr_left (fun p _ => rfl)
    rw [h2]
set_option maxHeartbeats 1000000 in
theorem coll_any (Bm mb : Nat) (l : List (Int × Value)) (w : World) (hc : w.cell? ⟨Bm, 0, none⟩ = some (.map (some mb))) (hB : Bm < w.heap.size) (h : MapAt w mb l) (hwf : ∀ p ∈ l, (Lit.int .i64 p.1).wf = true) (hn : l.length ≤ 1000000) :
    Calls Tryd.prog 51 #[.func (.func 60) #[] #[.pointer (some ⟨Bm, 0, none⟩)]] w fun e w' => ∃ (a : Option Addr) (c : Nat) (ss : List Int), e = .returned (.slice a ss.length c) ∧ ss.Perm (l.map (·.1)) ∧ Rd w' 1 a ss.length c (ss.map (Value.int .i64)) ∧ Below w.heap.size w w' := by
  obtain ⟨D0, hown, hsz, hperm⟩ := h.owns hwf (by unfold maxLen; omega)
  refine (callsIn_wide (n := 6)).1 ?_
  have hseq : SeqGives Fence.wide 4 Tryd.prog 60 #[.pointer (some ⟨Bm, 0, none⟩)] encZ (fun ss => ss.Perm (intKeys D0)) (Maps.size D0) w :=
    AnyZI.keys_gives (ρ := Tryd.keysA_ren) { Tryd.keysA with } Fence.wide _ trivial rfl (by omega) Bm mb l.length D0 w hB hc hown
  have cS := AnyZI.collect_in Tryd.collA Fence.wide 6 trivial trivial rfl (by omega) 60 #[.pointer (some ⟨Bm, 0, none⟩)] trivial (enters_of Tryd.func60 (by kernel_rfl) rfl) _ _ (by rw [hsz]; unfold maxLen; omega) (by rw [hsz]; omega) w hseq
  refine CallsIn.mono (show CallsIn Fence.wide 6 Tryd.prog 51 _ _ _ from cS) ?_
  rintro e w' ⟨v, ss, rfl, hS, hrow, _, hb⟩
  obtain ⟨a, c, rfl, hr⟩ := Rd.own hrow
  exact ⟨a, c, ss, rfl, hS.trans hperm, hr, hb⟩
theorem clone_map (b : Nat) (l : List (Int × Value)) (w : World) (h : MapAt w b l) :
    Calls Tryd.prog 53 #[.map (some b)] w fun e w' => e = .returned (.map (some w.heap.size)) ∧ MapAt w' w.heap.size l ∧ Below w.heap.size w w' ∧ w'.heap.size = w.heap.size + 1 := by
  obtain ⟨es, clock, hb, hs, hm⟩ := h
  have hq := fun w => run_eql_map_nil_sl (P := Tryd.prog) w 70 _ _ (some b) Tryd.underlying70
  go_enter Tryd.func53, Tryd.ntmps53
  go_wp2
  rw [run_callFunc_extern Tryd.func61 (by kernel_rfl) (by kernel_rfl) (by kernel_rfl) (e := Extern.MapsClone.clone) (by kernel_rfl), run_maps_clone_sl w 70 hb]
  simp only [Result.andThen]
  rw [Oper.upon_value]
  go_wp2
  rw [run_typeAssert_map_sl _ 70 20 _ _ _ Tryd.underlying70]
  simp only [Result.andThen]
  rw [Oper.upon_value]
  go_wp2
  go_ret
  exact ⟨rfl, ⟨es, clock, (MapKept.heap_alloc w _).1, hs, hm⟩, (Below.refl _ w).alloc (Nat.le_refl _) _, by simp⟩
end Go.Proofs.YtlgabjffnjciaaaDoor
