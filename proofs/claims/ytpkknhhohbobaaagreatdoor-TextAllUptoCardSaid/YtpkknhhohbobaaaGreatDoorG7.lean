/- text: TextBack; text: PrintAll -/
import Derived.Test.YtpkknhhohbobaaaGreatDoorTxtZgQ
namespace Go.Proofs.YtpkknhhohbobaaaGreatDoor
set_option linter.unusedSimpArgs false
set_option linter.unusedVariables false
open Go.RowKit Go.Sort
theorem yieldsIf_blk {P : Program} {ops : Array Oper} {S : World → Prop} {op : Oper} {a : Act} (hw : Region.wanted op (yielded ops a.tmps) = true) (ty : TypeId) (x : Operand) (ho : op.op = .load ty x)
    (b : Nat) (hx : a.eval x = .pointer (some ⟨b, 0, none⟩)) (cs : Array Value) (d : TypeDesc) (hS : ∀ w, S w → BlkAt w b ty cs)
    (hu : P.underlying ty = some d) (hd : d.isRow = true) (hi : (P.info? ty).map (·.size) = some cs.size) : YieldsIf P ops S op (.agg cs) a := by
  have := yieldsIf_load_mid (S := S) hw ty x ho b 0 hx cs.toList d (fun w h => (hS w h).range (fun j u hj => by rw [Nat.zero_add]; simpa using hj)) hu hd (by simpa using hi)
  simpa using this
end Go.Proofs.YtpkknhhohbobaaaGreatDoor
namespace Go.Proofs.YtpkknhhohbobaaaGreatDoor
set_option linter.unusedSimpArgs false
set_option linter.unusedVariables false
open Go.RowKit Go.Sort
theorem wstr_any (B b : Nat) (bs : List Value) (s : ByteArray) (w : World) (h : Lib.IsBuilderF 69 5 B b bs w) (hlen : bs.length + s.size ≤ 140737488355328) (hBw : B ≤ w.heap.size) :
    Calls Tryz.prog 25 #[.pointer (some ⟨b, 0, none⟩), .string s] w fun e w' => e = .returned (.tuple #[.int .i64 s.size, .nilIface]) ∧ (Lib.BuilderAtF 69 5 B b (.pointer (some ⟨b, 0, none⟩)) (bs ++ Lib.strCells s) w' ∧ Below B w w' ∧ Lib.OthersKept 5 (some b) w w') :=
  Go.Proofs.Any.Builder_WriteString_k (ρ := Tryz.lays156_ren) {Tryz.lays156 with} Tryz.Builder_Extra_156 B b bs s w h hlen hBw
theorem bldF_below {T e : TypeId} {B b : Nat} {p : Value} {bs : List Value} {W W' : World} (h : Lib.BuilderAtF T e B b p bs W) (k : Below W.heap.size W W') : Lib.BuilderAtF T e B b p bs W' := by
  obtain ⟨hB, v, hb, hown, hne⟩ := h
  have hlt : b < W.heap.size := (Array.getElem?_eq_some_iff.1 hb).1
  refine ⟨hB, v, (k.block b hlt).trans hb, ?_, hne⟩
  have hl := hown.lt
  obtain ⟨h1, h2⟩ := hown
  refine ⟨h1, ?_⟩
  rcases h2 with h2 | ⟨g, cap, cur, fz, rfl, hb, hg, h3⟩
  · exact .inl h2
  · exact .inr ⟨g, cap, cur, fz, rfl, hb, (k.block g (hl g rfl).2).trans hg, h3⟩
theorem isbF_below {T e : TypeId} {B b : Nat} {bs : List Value} {W W' : World} (h : Lib.IsBuilderF T e B b bs W) (k : Below W.heap.size W W') : Lib.IsBuilderF T e B b bs W' :=
  h.elim (fun x => .inl (bldF_below x k)) (fun x => .inr (bldF_below x k))
/-- The text of a trace. -/
def prAllE : List TEv → Int
  | [] => 0
  | x :: l => if evE x = 0 then prAllE l else evE x
def prAllW (l : List TEv) : W8 := l.flatMap fun x => lineW x ++ [10]
def prAllS (l : List TEv) : ByteArray := if prAllE l = 0 then mkB (prAllW l) else ⟨#[]⟩
theorem prAllE_drop : ∀ (l : List TEv) (i : Nat), (∀ x ∈ l.take i, evE x = 0) → prAllE l = prAllE (l.drop i)
  | l, 0, _ => rfl
  | [], i + 1, _ => rfl
  | x :: l, i + 1, h => by
    have h0 : evE x = 0 := h x (by simp)
    show (if evE x = 0 then prAllE l else evE x) = _
    rw [if_pos h0, prAllE_drop l i (fun y hy => h y (by simp [hy]))]
    rfl
theorem mkB_app10 (u : W8) : mkB u ++ (⟨#[10]⟩ : ByteArray) = mkB (u ++ [10]) := by
  apply ByteArray.ext
  rw [ByteArray.data_append]
  simp [mkB]
theorem strC (l u : W8) : Lib.byteCells l ++ Lib.strCells (mkB u) = Lib.byteCells (l ++ u) := by
  unfold Lib.byteCells Lib.strCells
  simp [mkB]
theorem prAllW_len {w : World} : ∀ (l : List Er), (∀ e ∈ l, EvR w e.x e.da e.dn e.dc e.na e.nn e.nc ∧ evE e.x = 0) → (prAllW (l.map (·.x))).length ≤ 200000001 * l.length
  | [], _ => Nat.le_refl 0
  | e :: l, h => by
    have h1 := line_short (h e (by simp)).1 (h e (by simp)).2
    have h2 := prAllW_len l (fun y hy => h y (by simp [hy]))
    unfold prAllW at h2 ⊢
    rw [List.map_cons, List.flatMap_cons, List.length_append, List.length_append]
    simp only [List.length_cons, List.length_nil]
    omega
set_option maxHeartbeats 6400000 in
set_option maxRecDepth 100000 in
theorem printall_any (l : List Er) (a : Option Addr) (n c : Nat) (w : World) (hr : Rd w 19 a n c (l.flatMap erC)) (hE : ∀ e ∈ l, EvR w e.x e.da e.dn e.dc e.na e.nn e.nc) (hn : n ≤ 1000) (hT : TL w) :
    Calls Tryz.prog 10 #[.slice a n c] w fun e w' => e = .returned (.tuple #[.string (prAllS (l.map (·.x))), .int .i64 (prAllE (l.map (·.x)))]) ∧ Below w.heap.size w w' := by
  have hl : Hid (l.length = n) := Lib.hid (by have := hr.length_eq; rw [flatMap_len erC_len] at this; omega)
  have hb1 := alloc_below w (.cells #[.pointer none, .slice none 0 0] 69)
  obtain ⟨w1, hw1⟩ : ∃ z, z = w.alloc (.cells #[.pointer none, .slice none 0 0] 69) := ⟨_, rfl⟩
  have hBl : Lib.IsBuilderF 69 5 w.heap.size w.heap.size (Lib.byteCells []) w1 := .inl ⟨Nat.le_refl _, .slice none 0 0, by rw [hw1]; exact BlkAt.new _ _ _, World.ownsRowF_nil _ _ _ _, (fun e => by cases e)⟩
  have hs1 : w1.heap.size = w.heap.size + 1 := by rw [hw1]; simp
  rw [← hw1] at hb1
  obtain ⟨B, hB⟩ : ∃ z, z = w.heap.size := ⟨_, rfl⟩
  rw [← hB] at hBl hs1
  replace hb1 := Lib.hid hb1
  replace hBl := Lib.hid hBl
  replace hw1 := Lib.hid hw1
  replace hB := Lib.hid hB
  replace hr := Lib.hid hr
  replace hE := Lib.hid hE
  replace hT := Lib.hid hT
  go_enter Tryz.func10, Tryz.ntmps10
  go_upto_region 2 with (fail)
  rw [← hw1.out, ← hB.out]
  go_wp2
  go_loopw [6, 7, 8, 11] (fun _ _ _ iv wr => ∃ (i : Nat), i ≤ n ∧ iv = .int .i64 i ∧ Hid (∀ x ∈ (l.take i).map (·.x), evE x = 0) ∧ Hid (Lib.IsBuilderF 69 5 B B (Lib.byteCells (prAllW ((l.take i).map (·.x)))) wr) ∧ Hid (Below B w wr) ∧ Hid (B + 1 ≤ wr.heap.size)) (fun _ _ _ iv _ => n - (RowKit.intOf iv).toNat)
  case atStart => exact ⟨0, Nat.zero_le _, rfl, Lib.hid (fun x h => by cases h), hBl, Lib.hid (by rw [hB.out]; exact hb1.out), Lib.hid (by omega)⟩
  case round =>
    obtain ⟨i, hi, rfl, hz, hbl, hb, hsz⟩ := hrel
    obtain ⟨w2, rfl⟩ : ∃ z, z = wr := ⟨_, rfl⟩
    have hbw : Hid (Below w.heap.size w w2) := Lib.hid (by rw [← hB.out]; exact hb.out)
    clear hBl
    by_cases hin : i < n
    · have hiI : (i : Int) < n := by omega
      have hkl : i < l.length := by rw [hl.out]; exact hin
      obtain ⟨g, off, rfl, hg⟩ := hr.out.addr (by omega)
      have hts := Lib.hid (show (l.take (i + 1)).map (·.x) = (l.take i).map (·.x) ++ [l[i].x] from by rw [List.take_succ_eq_append_getElem hkl, List.map_append]; rfl)
      have hdr := Lib.hid (show (l.map (·.x)).drop i = l[i].x :: (l.drop (i + 1)).map (·.x) from by rw [← List.map_drop, List.drop_eq_getElem_cons hkl]; rfl)
      have hEi := hE.out l[i] (List.getElem_mem hkl)
      have r1 : w2.rangeAt g (off + i * 19) (erC l[i]) := fun j v hj => erC_at (hr.out.below hbw.out (Nat.le_refl _)) i hkl j (by have := (List.getElem?_eq_some_iff.1 hj).1; rw [erC_len] at this; exact this) v hj
      have hlen := Lib.hid (fun (h0 : evE l[i].x = 0) => prAllW_len (w := w) (l.take (i + 1)) (fun e he => ⟨hE.out e (List.mem_of_mem_take he), by
        have : e.x ∈ (l.take (i + 1)).map (·.x) := List.mem_map_of_mem he
        rw [hts.out] at this
        rcases List.mem_append.1 this with h | h
        · exact hz.out _ h
        · rw [List.mem_singleton.1 h]; exact h0⟩))
      generalize l[i] = y at *
      have HP := Lib.hid (fun (W : World) (hb : Below w.heap.size w W) => print_any (hEi.below hb) (hT.out.on hb))
      obtain ⟨cs, hcs⟩ : ∃ z, z = evC y.x y.da y.dn y.dc y.na y.nn y.nc := ⟨_, rfl⟩
      have hIE : (Tryz.prog.info? 34).map (·.size) = some cs.size := by rw [hcs]; exact Tryz.evI
      have hIL : (Tryz.prog.info? 34).map (·.size) = some cs.toList.length := by rw [hcs]; exact Tryz.evI
      have h1c : cs.all (·.oneCell') = true := by rw [hcs]; exact evC_one _ _ _ _ _ _ _
      have h19 : 0 + cs.size ≤ 19 := by rw [hcs, evC_size]; decide
      have hset : setArr #[.int .i64 0, .int .i64 0, .int .u64 0, .int .i64 0, .int .u64 0, .int .i64 0, .int .u64 0, .int .i64 0, .int .u32 0, .int .u64 0, .int .i64 0, .slice none 0 0, .string ⟨#[]⟩, .int .u64 0, .int .u64 0, .int .i64 0, .int .u64 0, .slice none 0 0, .string ⟨#[]⟩] 0 cs.toList = cs := by rw [hcs]; exact evC_set _ _ _ _ _ _ _
      rw [show erC y = cs.toList from by rw [hcs]; rfl] at r1
      rw [← hcs] at HP
      replace hcs := Lib.hid hcs
      have hN2 := BlkAt.new w2 34 #[.int .i64 0, .int .i64 0, .int .u64 0, .int .i64 0, .int .u64 0, .int .i64 0, .int .u64 0, .int .i64 0, .int .u32 0, .int .u64 0, .int .i64 0, .slice none 0 0, .string ⟨#[]⟩, .int .u64 0, .int .u64 0, .int .i64 0, .int .u64 0, .slice none 0 0, .string ⟨#[]⟩]
      have hb2a := alloc_below w2 (.cells #[.int .i64 0, .int .i64 0, .int .u64 0, .int .i64 0, .int .u64 0, .int .i64 0, .int .u64 0, .int .i64 0, .int .u32 0, .int .u64 0, .int .i64 0, .slice none 0 0, .string ⟨#[]⟩, .int .u64 0, .int .u64 0, .int .i64 0, .int .u64 0, .slice none 0 0, .string ⟨#[]⟩] 34)
      have hca : cs.toList.toArray = cs := Array.toArray_toList
      go_upto_region 5 with (first
        | (refine wpList_load_mid rfl _ (.tmp 13) rfl g (off + i * 19) rfl cs.toList _ r1 Tryz.underlying34 rfl hIL ?_)
        | (refine wpList_blk_put (cs := cs) rfl (.tmp 6) (.tmp 14) rfl rfl (by first | rfl | (show Value.agg _ = Value.agg _; rw [hca]) | simp) hN2 hIE h19 h1c ?_; intro w3 hX3 hK3 hs3; rw [hset] at hX3))
      have hb3 := Kp.below hb2a hK3 (Nat.le_refl _) hb2a.size
      have hB3 := Lib.hid (belS hbw.out hb3)
      have HP3 := Lib.hid (HP.out _ hB3.out)
      have hbl3 := Lib.hid (isbF_below hbl.out hb3)
      have hsz3 := Lib.hid (Nat.le_trans hsz.out hb3.size)
      generalize w2.heap.size = xb at *
      clear hN2 hb2a hK3 hs3 hb3 HP hbl hbw h1c h19 hset hIL r1 hca hb hsz
      go_wp2_with (first
        | (refine wpList_blk_load rfl (.tmp 6) rfl Tryz.underlying34 rfl rfl hX3 hIE ?_))
      refine HP3.out.mono ?_
      rintro e w4 ⟨rfl, hb4⟩
      have hB4 := Lib.hid (belS hB3.out hb4)
      have hbl4 := Lib.hid (isbF_below hbl3.out hb4)
      have hsz4 := Lib.hid (Nat.le_trans hsz3.out hb4.size)
      clear HP3 hbl3 hsz3 hb4 hX3 hB3 hIE
      by_cases h0 : evE y.x = 0
      · have hps : prS y.x = mkB (lineW y.x) := if_pos h0
        have hln := hlen.out h0
        have hln2 : (l.take (i + 1)).length ≤ 1000 := by rw [List.length_take]; omega
        have h0b : (evE y.x != 0) = false := by simpa using h0
        have hbs : (Lib.byteCells (prAllW ((l.take i).map (·.x)))).length + (mkB (lineW y.x) ++ (⟨#[10]⟩ : ByteArray)).size ≤ 140737488355328 := by
          rw [hts.out] at hln
          unfold prAllW at hln ⊢
          rw [List.flatMap_append, List.length_append, List.flatMap_singleton] at hln
          rw [Lib.byteCells_length, mkB_app10, mkB_size]
          omega
        have hsl := line_short hEi h0
        have hs1 : ¬ 9223372036854775807 < (mkB (lineW y.x)).size + 1 := by rw [mkB_size]; omega
        have HW := Lib.hid (wstr_any B B _ (mkB (lineW y.x) ++ (⟨#[10]⟩ : ByteArray)) w4 hbl4.out hbs (by have := hsz4.out; omega))
        have hz2 : Hid (∀ x ∈ (l.take (i + 1)).map (·.x), evE x = 0) := Lib.hid (by
          rw [hts.out]
          intro x hx
          rcases List.mem_append.1 hx with h | h
          · exact hz.out x h
          · rw [List.mem_singleton.1 h]; exact h0)
        clear hln hln2 hbs hlen hbl4
        go_wp2_with fail
        refine HW.out.mono ?_
        rintro e w5 ⟨rfl, hb5, hbel, -⟩
        have hbl5 : Hid (Lib.IsBuilderF 69 5 B B (Lib.byteCells (prAllW ((l.take (i + 1)).map (·.x)))) w5) := Lib.hid (.inr (by
          rw [hts.out]
          rw [mkB_app10, strC] at hb5
          unfold prAllW at hb5 ⊢
          rw [List.flatMap_append, List.flatMap_singleton]
          exact hb5))
        have hB5 := Lib.hid (show Below B w w5 from by have h := hB4.out; rw [← hB.out] at h; exact h.trans hbel)
        have hsz5 := Lib.hid (Nat.le_trans hsz4.out hbel.size)
        clear HW hb5 hbel hB4 h0 h0b hps
        go_wp2
        go_roundw
        case rel => exact ⟨i + 1, by omega, by go_num, hz2, hbl5, hB5, hsz5⟩
        case measure => simp [RowKit.intOf]; omega
      · have h0b : (evE y.x != 0) = true := by simpa using h0
        have hze : Hid (prAllE (l.map (·.x)) = evE y.x) := Lib.hid (by
          rw [prAllE_drop (l.map (·.x)) i (by rw [← List.map_take]; exact hz.out), hdr.out]
          show (if evE y.x = 0 then _ else _) = _
          rw [if_neg h0])
        have hzs : Hid (prAllS (l.map (·.x)) = ⟨#[]⟩) := Lib.hid (by unfold prAllS; rw [hze.out, if_neg h0])
        clear h0
        go_wp2
        refine bodyPost_ret (v := .tuple #[.string ⟨#[]⟩, .int .i64 (evE y.x)]) (by simp [results, Tryz.results10, go_sem]) rfl ?_
        exact ⟨by rw [hze.out, hzs.out], hB4.out⟩
    · have hiI : ¬ (i : Int) < n := by omega
      obtain rfl : i = n := by omega
      have ht : l.take i = l := List.take_of_length_le (by rw [hl.out]; exact Nat.le_refl _)
      rw [ht] at hz hbl
      have hze : Hid (prAllE (l.map (·.x)) = 0) := Lib.hid (by rw [prAllE_drop (l.map (·.x)) i (by rw [← List.map_take, ht]; exact hz.out), List.drop_of_length_le (by rw [List.length_map, hl.out]; exact Nat.le_refl _)]; rfl)
      have hzs : Hid (prAllS (l.map (·.x)) = mkB (prAllW (l.map (·.x)))) := Lib.hid (if_pos hze.out)
      have HS := Lib.hid (Tryz.Builder_String_any_k B B _ w2 hbl.out (by have := hsz.out; omega))
      go_wp2_with fail
      refine HS.out.mono ?_
      rintro e w3 ⟨rfl, _, hb3, _⟩
      have hB3 := Lib.hid (hb.out.trans hb3)
      go_wp2
      refine bodyPost_ret (v := .tuple #[.string ⟨(prAllW (l.map (·.x))).toArray⟩, .int .i64 0]) (by simp [results, Tryz.results10, go_sem]) rfl ?_
      refine ⟨by rw [hze.out, hzs.out]; rfl, ?_⟩
      rw [← hB.out]
      exact hB3.out
end Go.Proofs.YtpkknhhohbobaaaGreatDoor
