/- walks of Of, and of the reference's Of -/
import Derived.Test.YtcgfpolklfhppaaDoorNameE
namespace Go.Proofs.YtcgfpolklfhppaaDoor
open Go.RowKit Go.Sort

theorem results_row1 {P : Program} {fn : Func} {p q : Tmp} {ty : TypeId} (h : fn.results = #[.cell p ty, .tmp q]) (tmps : Array Value) (w : World) (g : Nat) (t : TypeId) (cs : Array Value) (fr : Nat × Nat) (d : TypeDesc)
    (hp : tmps.getD p undef = .pointer (some ⟨g, 0, none⟩)) (hg : w.heap[g]? = some (.cells cs t fr))
    (hu : P.underlying ty = some d) (hd : (match d with | .struct _ | .array _ _ => true | _ => false) = true) (hi : (P.info? ty).map (·.size) = some cs.size) :
    (results fn tmps).run P w = .ok (.tuple #[.agg cs, tmps.getD q undef]) w := by
  have hp' : tmps[p]?.getD undef = .pointer (some ⟨g, 0, none⟩) := by simpa using hp
  simp [results, h, hp', asAddr, run_loadVar_row w g t ty cs fr d hg hu hd hi, Result.andThen]
theorem Tryd.nmZ : (Tryd.prog.info? 30).map (·.zero) = some (some (.agg #[.int .i64 0, .int .u32 0])) := by kernel_rfl
theorem Tryd.nmI : (Tryd.prog.info? 30).map (·.size) = some 2 := by kernel_rfl
def nmV (r : Nm × Bool) : Value := .tuple #[.agg #[.int .i64 r.1.proc, .int .u32 r.1.inc], .bool r.2]
theorem findIdx?_lt {α : Type} {q : α → Bool} {l : List α} {i : Nat} (h : l.findIdx? q = some i) : i < l.length := (List.findIdx?_eq_some_iff_getElem.1 h).1
set_option maxHeartbeats 800000 in
set_option maxRecDepth 100000 in
theorem nof_any (p : Int) (a : Option Addr) (n c : Nat) (l : List Nm) (w : World) (hr : RdM w a n c l) :
    Calls Tryd.prog 8 #[.slice a n c, .int .i64 p] w fun e w' => e = .returned (nmV (ofM l p)) ∧ Below w.heap.size w w' := by
  have hln := hr.len
  have hmx := Rd.le_max hr
  unfold maxLen at hmx
  have hb2 : Below w.heap.size w ((w.alloc (.cells #[.int .i64 p] 3)).alloc (.cells #[.int .i64 0, .int .u32 0] 30)) := ((Below.refl _ _).alloc (Nat.le_refl _) _).alloc (by simp) _
  have hB : BlkAt ((w.alloc (.cells #[.int .i64 p] 3)).alloc (.cells #[.int .i64 0, .int .u32 0] 30)) w.heap.size 3 #[.int .i64 p] := BlkAt.alloc (BlkAt.new w _ _) _
  have hC : BlkAt ((w.alloc (.cells #[.int .i64 p] 3)).alloc (.cells #[.int .i64 0, .int .u32 0] 30)) (w.heap.size + 1) 30 #[.int .i64 0, .int .u32 0] := by simpa using BlkAt.new (w.alloc (.cells #[.int .i64 p] 3)) 30 #[.int .i64 0, .int .u32 0]
  have hr2 : RdM ((w.alloc (.cells #[.int .i64 p] 3)).alloc (.cells #[.int .i64 0, .int .u32 0] 30)) a n c l := Rd.below hr hb2 (Nat.le_refl _)
  have HI := Lib.hid (fun W (h : RdM W a n c l) (hb : BlkAt W w.heap.size 3 #[.int .i64 p]) => indexM_any p w.heap.size a n c l W h hb)
  clear hr
  go_enter Tryd.func8, Tryd.ntmps8
  go_wp2_with (refine wpList_blk_alloc rfl rfl Tryd.nmZ (w.heap.size + 1) (by simp) ?_; generalize (w.alloc _).alloc _ = w1 at *)
  refine (HI.out _ hr2 hB).mono ?_
  rintro e w3 ⟨rfl, hb3⟩
  have hr3 : RdM w3 a n c l := Rd.below hr2 hb3 (Nat.le_refl _)
  have hC3 := hC.below hb3 hC.lt
  have hbw := belS hb2 hb3
  clear HI hr2 hB hC hb3
  cases hf : l.findIdx? (nmQ p) with
  | none =>
    have HR := Lib.hid (show ofM l p = (⟨0, 0⟩, false) from by rw [ofM, hf])
    have hz : idxM l p = -1 := by rw [idxM, hf]
    rw [hz]
    go_wp2_with (refine wpList_blk_store rfl (.tmp 4) (.tmp 12) rfl rfl rfl hC3 Tryd.nmI rfl (by simp [Value.oneCell']) ?_; intro w4 hB4 hK4 hsz4)
    refine bodyPost_ret (results_row1 rfl _ _ (w.heap.size + 1) 30 _ (0, 0) _ rfl hB4 Tryd.underlying30 rfl Tryd.nmI) rfl ⟨by rw [HR.out]; rfl, Kp.below hbw hK4 (by omega) hbw.size⟩
  | some i =>
    have hil := findIdx?_lt hf
    have HR := Lib.hid (show ofM l p = (l[i], true) from by rw [ofM, hf]; show ((l[i]?.getD _, true) : Nm × Bool) = _; rw [List.getElem?_eq_getElem hil]; rfl)
    have hz : idxM l p = (i : Int) := by rw [idxM, hf]
    rw [hz]
    obtain ⟨bs, off, rfl, _⟩ := Rd.addr hr3 (by omega)
    obtain ⟨c0, c1⟩ := RdM.at hr3 i hil
    have hiI : (i : Int) < n := by omega
    have hi0 : ¬ (i : Int) < 0 := by omega
    generalize l[i] = u at *
    clear hf hz
    go_wp2_with (refine wpList_blk_store rfl (.tmp 4) (.tmp 16) rfl rfl rfl hC3 Tryd.nmI rfl (by simp [Value.oneCell']) ?_; intro w4 hB4 hK4 hsz4)
    refine bodyPost_ret (results_row1 rfl _ _ (w.heap.size + 1) 30 _ (0, 0) _ rfl hB4 Tryd.underlying30 rfl Tryd.nmI) rfl ⟨by rw [HR.out]; rfl, Kp.below hbw hK4 (by omega) hbw.size⟩
set_option maxHeartbeats 800000 in
set_option maxRecDepth 100000 in
theorem rnof_any (p : Int) (a : Option Addr) (n c : Nat) (l : List Nm) (w : World) (hr : RdM w a n c l) :
    Calls Tryd.prog 9 #[.slice a n c, .int .i64 p] w fun e w' => e = .returned (nmV (ofM l p)) ∧ Below w.heap.size w w' := by
  have hl := Lib.hid hr.len
  have hmx := Rd.le_max hr
  unfold maxLen at hmx
  have hb2 : Below w.heap.size w (w.alloc (.cells #[.int .i64 0, .int .u32 0] 30)) := (Below.refl _ _).alloc (Nat.le_refl _) _
  have hC : BlkAt (w.alloc (.cells #[.int .i64 0, .int .u32 0] 30)) w.heap.size 30 #[.int .i64 0, .int .u32 0] := BlkAt.new w _ _
  have hr2 : RdM (w.alloc (.cells #[.int .i64 0, .int .u32 0] 30)) a n c l := Rd.below hr hb2 (Nat.le_refl _)
  clear hr
  go_enter Tryd.func9, Tryd.ntmps9
  go_wp2_with (refine wpList_blk_alloc rfl rfl Tryd.nmZ w.heap.size rfl ?_; generalize w.alloc _ = w1 at *)
  go_loop [6] (fun i => ∃ k : Nat, k ≤ n ∧ i = .int .i64 k ∧ Hid (∀ i (_ : i < k) (hi : i < l.length), nmQ p l[i] = false)) (fun i => n - (intOf i).toNat)
  case atStart => exact ⟨0, Nat.zero_le _, rfl, (fun i h => by omega)⟩
  case round =>
    obtain ⟨k, hk, rfl, hno⟩ := hrel
    by_cases hlt : k < n
    · have hkl : k < l.length := by rw [hl.out]; exact hlt
      obtain ⟨bs, off, rfl, _⟩ := Rd.addr hr2 (by omega)
      obtain ⟨c0, c1⟩ := RdM.at hr2 k hkl
      have hkI : (k : Int) < n := by omega
      cases he : nmQ p l[k] with
      | true =>
        have HR := Lib.hid (show ofM l p = (l[k], true) from by rw [ofM, findIdx?_at hkl (fun i hi => hno.out i hi (by omega)) he]; show ((l[k]?.getD _, true) : Nm × Bool) = _; rw [List.getElem?_eq_getElem hkl]; rfl)
        unfold nmQ at he
        generalize l[k] = u at *
        go_wp2_with (refine wpList_blk_store rfl (.tmp 4) (.tmp 23) rfl rfl rfl hC Tryd.nmI rfl (by simp [Value.oneCell']) ?_; intro w4 hB4 hK4 hsz4)
        refine bodyPost_ret (results_row1 rfl _ _ w.heap.size 30 _ (0, 0) _ rfl hB4 Tryd.underlying30 rfl Tryd.nmI) rfl ⟨by rw [HR.out]; rfl, Kp.below hb2 hK4 (by omega) hb2.size⟩
      | false =>
        have HN : Hid (∀ i (_ : i < k + 1) (hi : i < l.length), nmQ p l[i] = false) := fun i hi h => by
          by_cases e : i = k
          · subst e; exact he
          · exact hno.out i (by omega) h
        unfold nmQ at he
        generalize l[k] = u at *
        go_wp2
        go_round
        case rel => exact ⟨k + 1, by omega, by go_num, HN⟩
        case measure => simp [intOf]; omega
    · obtain rfl : k = n := by omega
      have HR := Lib.hid (show ofM l p = (⟨0, 0⟩, false) from by rw [ofM, findIdx?_no (fun i hi => hno.out i (by have := hl.out; omega) hi)])
      go_wp2_with (refine wpList_blk_store rfl (.tmp 4) (.tmp 24) rfl rfl rfl hC Tryd.nmI rfl (by simp [Value.oneCell']) ?_; intro w4 hB4 hK4 hsz4)
      refine bodyPost_ret (results_row1 rfl _ _ w.heap.size 30 _ (0, 0) _ rfl hB4 Tryd.underlying30 rfl Tryd.nmI) rfl ⟨by rw [HR.out]; rfl, Kp.below hb2 hK4 (by omega) hb2.size⟩
end Go.Proofs.YtcgfpolklfhppaaDoor
