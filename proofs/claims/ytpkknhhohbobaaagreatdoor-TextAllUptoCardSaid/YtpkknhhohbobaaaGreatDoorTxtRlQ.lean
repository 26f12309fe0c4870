/- text: Traces of like traces -/
import Derived.Test.YtpkknhhohbobaaaGreatDoorTxtRkQ
namespace Go.Proofs.YtpkknhhohbobaaaGreatDoor
set_option linter.unusedSimpArgs false
set_option linter.unusedVariables false
open Go.RowKit Go.Sort
theorem yields_rngT {P : Program} {ops : Array Oper} {S : World → Prop} {op : Oper} {a : Act} (hw : Region.wanted op (yielded ops a.tmps) = true) (ty : TypeId) (x : Operand) (ho : op.op = .load ty x)
    (b o : Nat) (hx : a.eval x = .pointer (some ⟨b, o, none⟩)) (cs : Array Value) (d : TypeDesc) (hS : ∀ w, S w → w.rangeAt b o cs.toList)
    (hu : P.underlying ty = some d) (hd : d.isRow = true) (hi : (P.info? ty).map (·.size) = some cs.size) : YieldsIf P ops S op (.agg cs) a := by
  have := yieldsIf_load_mid (S := S) hw ty x ho b o hx cs.toList d hS hu hd (by simpa using hi)
  simpa using this
theorem rngT_below {w w' : World} {b o : Nat} {cs : List Value} (h : w.rangeAt b o cs) (hb : b < w.heap.size) (k : Below w.heap.size w w') : w'.rangeAt b o cs := fun j v hj => by
  rw [World.cell?_of_block (w := w) (k.block b hb)]
  exact h j v hj
theorem rdT_rng {w : World} {g off n c : Nat} {l : List Er} (h : Rd w 19 (some ⟨g, off, none⟩) n c (l.flatMap erC)) (i : Nat) (hi : i < l.length) : w.rangeAt g (off + i * 19) (erC l[i]) :=
  fun j v hj => erC_at h i hi j (by have := (List.getElem?_eq_some_iff.1 hj).1; rw [erC_len] at this; exact this) v hj
/-- An event's rows read so. -/
def ErD (w : World) (e : Er) : Prop := Rd w 1 e.da e.dn e.dc (c32 e.x.m.deps) ∧ Rd w 2 e.na e.nn e.nc (e.x.names.flatMap nmC)
theorem ErD.below {w w' : World} {e : Er} (h : ErD w e) (hb : Below w.heap.size w w') : ErD w' e := ⟨h.1.below hb (Nat.le_refl _), h.2.below hb (Nat.le_refl _)⟩
theorem ErF.d {w : World} {B : Nat} {v : Value} {e : Er} (h : ErF w B v e) : ErD w e := ⟨by rw [h.dn]; exact h.f.dr, by rw [h.nn]; exact h.f.nr⟩
theorem ErD.like {w : World} {e f : Er} (h : ErD w e) (h' : ErD w f) (hx : e.x = f.x) :
    Calls Tryz.prog 8 #[.agg (evC e.x e.da e.dn e.dc e.na e.nn e.nc), .agg (evC f.x f.da f.dn f.dc f.na f.nn f.nc)] w fun e w' => e = .returned (.bool true) ∧ Below w.heap.size w w' := by
  obtain ⟨x, da, dn, dc, na, nn, nc⟩ := e
  obtain ⟨y, ea, en, ec, fa, fn, fc⟩ := f
  obtain ⟨h1, h2⟩ := h
  obtain ⟨h3, h4⟩ := h'
  simp only at hx h1 h2 h3 h4 ⊢
  subst hx
  have e1 := h1.length_eq
  have e2 := h2.length_eq
  have e3 := h3.length_eq
  have e4 := h4.length_eq
  obtain rfl : dn = en := by omega
  obtain rfl : nn = fn := by omega
  exact revents_same _ _ _ _ _ _ _ _ _ _ _ _ h1 h2 h3 h4
set_option maxHeartbeats 6400000 in
set_option maxRecDepth 100000 in
theorem traces_any (l m : List Er) (a a' : Option Addr) (n c c' : Nat) (w : World) (hr : Rd w 19 a n c (l.flatMap erC)) (hr' : Rd w 19 a' n c' (m.flatMap erC)) (hx : l.map (·.x) = m.map (·.x)) (hF : ∀ e ∈ l, ErD w e) (hF' : ∀ e ∈ m, ErD w e) :
    Calls Tryz.prog 14 #[.slice a n c, .slice a' n c'] w fun e w' => e = .returned (.bool true) ∧ Below w.heap.size w w' := by
  have hl : Hid (l.length = n) := Lib.hid (by have := hr.length_eq; rw [flatMap_len erC_len] at this; omega)
  have hm : Hid (m.length = n) := Lib.hid (by have := hr'.length_eq; rw [flatMap_len erC_len] at this; omega)
  have hmx : n ≤ 9223372036854775807 := hr.le_max
  replace hr := Lib.hid hr
  replace hr' := Lib.hid hr'
  replace hx := Lib.hid hx
  replace hF := Lib.hid hF
  replace hF' := Lib.hid hF'
  go_enter Tryz.func14, Tryz.ntmps14
  go_wp2
  go_loopw [5] (fun iv wr => ∃ (i : Nat), i ≤ n ∧ iv = .int .i64 i ∧ Hid (Below w.heap.size w wr)) (fun iv _ => n - (RowKit.intOf iv).toNat)
  case atStart => exact ⟨0, Nat.zero_le _, rfl, Lib.hid (Below.refl _ _)⟩
  case round =>
    obtain ⟨i, hi, rfl, hb⟩ := hrel
    obtain ⟨w1, rfl⟩ : ∃ z, z = wr := ⟨_, rfl⟩
    by_cases hin : i < n
    · have hiI : (i : Int) < n := by omega
      have hil : i < l.length := by have := hl.out; omega
      have him : i < m.length := by have := hm.out; omega
      obtain ⟨g, off, rfl, hg⟩ := hr.out.addr (by omega)
      obtain ⟨g', off', rfl, hg'⟩ := hr'.out.addr (by omega)
      have hbd : Hid (Below w.heap.size w w1.drew) := Lib.hid hb.out.drew
      have r1 := rdT_rng (hr.out.below hbd.out (Nat.le_refl _)) i hil
      have r2 := rdT_rng (hr'.out.below hbd.out (Nat.le_refl _)) i him
      have hxi : l[i].x = m[i].x := by
        have h1 : (l.map (·.x))[i]? = some l[i].x := by rw [List.getElem?_map, List.getElem?_eq_getElem hil]; rfl
        rw [hx.out, List.getElem?_map, List.getElem?_eq_getElem him] at h1
        exact (Option.some.inj h1).symm
      have HE := Lib.hid (((hF.out l[i] (List.getElem_mem hil)).below hbd.out).like ((hF'.out m[i] (List.getElem_mem him)).below hbd.out) hxi)
      obtain ⟨c1, hc1⟩ : ∃ z, z = evC l[i].x l[i].da l[i].dn l[i].dc l[i].na l[i].nn l[i].nc := ⟨_, rfl⟩
      obtain ⟨c2, hc2⟩ : ∃ z, z = evC m[i].x m[i].da m[i].dn m[i].dc m[i].na m[i].nn m[i].nc := ⟨_, rfl⟩
      have hI1 : (Tryz.prog.info? 34).map (·.size) = some c1.size := by rw [hc1]; exact Tryz.evI
      have hI2 : (Tryz.prog.info? 34).map (·.size) = some c2.size := by rw [hc2]; exact Tryz.evI
      rw [← hc1, ← hc2] at HE
      rw [show erC l[i] = c1.toList from by rw [hc1]; rfl] at r1
      rw [show erC m[i] = c2.toList from by rw [hc2]; rfl] at r2
      have hst : w1.drew.rangeAt g (off + i * 19) c1.toList ∧ w1.drew.rangeAt g' (off' + i * 19) c2.toList := ⟨r1, r2⟩
      replace hc1 := Lib.hid hc1
      replace hc2 := Lib.hid hc2
      have hgl : g < w1.drew.heap.size := Nat.lt_of_lt_of_le hg hbd.out.size
      have hgl' : g' < w1.drew.heap.size := Nat.lt_of_lt_of_le hg' hbd.out.size
      clear r1 r2 hxi
      go_upto_region 6 with (fail)
      refine wp_region_held_drew (S := fun W => W.rangeAt g (off + i * 19) c1.toList ∧ W.rangeAt g' (off' + i * 19) c2.toList) (by kernel_rfl) hst ?_
      intro hHeld
      (refine wpAnyH_take (i := 0) (v := ?_) rfl (by kernel_rfl) (by kernel_rfl) (by kernel_rfl) (fun _ _ _ h => h) (Or.inl ⟨by rfl, ?_⟩) (by assumption) ?_; rotate_left; (focus (intro w hSw; clear hSw; go_simp; (try with_reducible rfl))); (try simp only [Act.put, List.getElem_toArray, List.getElem_cons_zero, List.getElem_cons_succ, List.setIfInBounds_toArray, List.set_cons_zero, List.set_cons_succ]))
      (refine wpAnyH_take (i := 1) (v := ?_) rfl (by kernel_rfl) (by kernel_rfl) (by kernel_rfl) (fun _ _ _ h => h) (Or.inl ⟨by rfl, ?_⟩) (by assumption) ?_; rotate_left; (focus (intro w hSw; clear hSw; go_simp; (try with_reducible rfl))); (try simp only [Act.put, List.getElem_toArray, List.getElem_cons_zero, List.getElem_cons_succ, List.setIfInBounds_toArray, List.set_cons_zero, List.set_cons_succ]))
      (refine wpAnyH_take (i := 2) (v := ?_) rfl (by kernel_rfl) (by kernel_rfl) (by kernel_rfl) (fun _ _ _ h => h) (Or.inl ⟨by rfl, ?_⟩) (by assumption) ?_; rotate_left; (focus (intro w hSw; clear hSw; go_simp; (try with_reducible rfl))); (try simp only [Act.put, List.getElem_toArray, List.getElem_cons_zero, List.getElem_cons_succ, List.setIfInBounds_toArray, List.set_cons_zero, List.set_cons_succ]))
      (refine wpAnyH_take (i := 3) (v := .agg (c1)) rfl (by kernel_rfl) (by kernel_rfl) (by kernel_rfl) (fun _ _ _ h => h) (yields_rngT (by rfl) 34 (.tmp 19) rfl g (off + i * 19) rfl c1 _ (fun W hW => hW.1) Tryz.underlying34 rfl hI1) (by assumption) ?_; (try simp only [Act.put, List.getElem_toArray, List.getElem_cons_zero, List.getElem_cons_succ, List.setIfInBounds_toArray, List.set_cons_zero, List.set_cons_succ]))
      (refine wpAnyH_take (i := 4) (v := ?_) rfl (by kernel_rfl) (by kernel_rfl) (by kernel_rfl) (fun _ _ _ h => h) (Or.inl ⟨by rfl, ?_⟩) (by assumption) ?_; rotate_left; (focus (intro w hSw; clear hSw; go_simp; (try with_reducible rfl))); (try simp only [Act.put, List.getElem_toArray, List.getElem_cons_zero, List.getElem_cons_succ, List.setIfInBounds_toArray, List.set_cons_zero, List.set_cons_succ]))
      (refine wpAnyH_take (i := 5) (v := ?_) rfl (by kernel_rfl) (by kernel_rfl) (by kernel_rfl) (fun _ _ _ h => h) (Or.inl ⟨by rfl, ?_⟩) (by assumption) ?_; rotate_left; (focus (intro w hSw; clear hSw; go_simp; (try with_reducible rfl))); (try simp only [Act.put, List.getElem_toArray, List.getElem_cons_zero, List.getElem_cons_succ, List.setIfInBounds_toArray, List.set_cons_zero, List.set_cons_succ]))
      (refine wpAnyH_take (i := 6) (v := ?_) rfl (by kernel_rfl) (by kernel_rfl) (by kernel_rfl) (fun _ _ _ h => h) (Or.inl ⟨by rfl, ?_⟩) (by assumption) ?_; rotate_left; (focus (intro w hSw; clear hSw; go_simp; (try with_reducible rfl))); (try simp only [Act.put, List.getElem_toArray, List.getElem_cons_zero, List.getElem_cons_succ, List.setIfInBounds_toArray, List.set_cons_zero, List.set_cons_succ]))
      (refine wpAnyH_take (i := 7) (v := .agg (c2)) rfl (by kernel_rfl) (by kernel_rfl) (by kernel_rfl) (fun _ _ _ h => h) (yields_rngT (by rfl) 34 (.tmp 23) rfl g' (off' + i * 19) rfl c2 _ (fun W hW => hW.2) Tryz.underlying34 rfl hI2) (by assumption) ?_; (try simp only [Act.put, List.getElem_toArray, List.getElem_cons_zero, List.getElem_cons_succ, List.setIfInBounds_toArray, List.set_cons_zero, List.set_cons_succ]))
      (refine wpAnyH_ready (rs := [8]) (by kernel_rfl) (by simp) ?_; refine AllReadyH.cons rfl (fun K hK => ?_) AllReadyH.nil)
      go_simp
      refine HE.out.mono ?_
      rintro e w2 ⟨rfl, hb2⟩
      refine hK.out _ _ ⟨rngT_below hst.1 hgl hb2, rngT_below hst.2 hgl' hb2⟩ (fun hHeld => ?_)
      have hb3 := Lib.hid (belS hbd.out hb2)
      clear hK K hst HE hb2
      (refine wpAnyH_take (i := 9) (v := ?_) rfl (by kernel_rfl) (by kernel_rfl) (by kernel_rfl) (fun _ _ _ h => h) (Or.inl ⟨by rfl, ?_⟩) (by assumption) ?_; rotate_left; (focus (intro w hSw; clear hSw; go_simp; (try with_reducible rfl))); (try simp only [Act.put, List.getElem_toArray, List.getElem_cons_zero, List.getElem_cons_succ, List.setIfInBounds_toArray, List.set_cons_zero, List.set_cons_succ]))
      refine wpAnyH_done (by kernel_rfl) ?_ _
      go_wp2
      go_roundw
      case rel => exact ⟨i + 1, by omega, by go_num, hb3⟩
      case measure => simp [RowKit.intOf]; omega
    · have hiI : ¬ (i : Int) < n := by omega
      go_wp2
      go_ret
      exact ⟨rfl, hb.out⟩
end Go.Proofs.YtpkknhhohbobaaaGreatDoor
