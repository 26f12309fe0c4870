/- log: walks of bad, of the writer -/
import Derived.Test.YtdfnpaaejjediaaLogC
import Derived.Test.YtdfnpaaejjediaaKpo
namespace Go.Proofs.Ytdfnpaaejjediaa
open Go.RowKit

/-- The panic of an error's number. -/
def pan (e : Int) : Ending := .panicked [{ v := .iface 36 (.int .i64 e), recovered := false }]
set_option maxHeartbeats 400000 in
theorem bad_no (e : Int) (w : World) : Calls Try.prog 30 #[.int .i64 e, .bool false] w fun x w' => x = .returned (.tuple #[]) ∧ w = w' := by
  go_enter Try.func30, Try.ntmps30
  go_wp2
  go_end0
  exact ⟨rfl, rfl⟩
theorem bad_f {t : Bool} (ht : t = false) (e : Int) (w : World) : Calls Try.prog 30 #[.int .i64 e, .bool t] w fun x w' => x = .returned (.tuple #[]) ∧ w = w' := by subst ht; exact bad_no e w
set_option maxHeartbeats 400000 in
theorem bad_yes (e : Int) (w : World) : Calls Try.prog 30 #[.int .i64 e, .bool true] w fun x w' => x = pan e ∧ w = w' := by
  go_enter Try.func30, Try.ntmps30
  go_wp2
  exact ⟨rfl, rfl, rfl⟩

theorem bad_t {t : Bool} (ht : t = true) (e : Int) (w : World) : Calls Try.prog 30 #[.int .i64 e, .bool t] w fun x w' => x = pan e ∧ w = w' := by subst ht; exact bad_yes e w
/-- A writer in block b, of the bytes l: no block of its is below B. -/
def WrAt (B : Nat) (w : World) (b : Nat) (l : List Int) : Prop := ∃ v, BlkAt w b 70 #[v] ∧ w.ownsRow B 5 1 v l.length (l.map (Value.int .u8)) ∧ v.ownBlock ≠ some b ∧ B ≤ b
section
variable {B : Nat} {w w' : World} {b : Nat} {l : List Int}
theorem WrAt.lt (h : WrAt B w b l) : b < w.heap.size := by obtain ⟨_, h1, _⟩ := h; exact h1.lt
theorem WrAt.below (h : WrAt B w b l) (k : Below w.heap.size w w') : WrAt B w' b l := by
  obtain ⟨v, h1, h2, h3, h4⟩ := h
  exact ⟨v, h1.below k h1.lt, own_belowB h2 k, h3, h4⟩
set_option maxHeartbeats 800000 in
theorem wnum_any (v n : Int) (h : WrAt B w b l) (hl : l.length ≤ 100000) (hv0 : 0 ≤ v) (hv1 : v < 18446744073709551616) :
    Calls Try.prog 25 #[.pointer (some ⟨b, 0, none⟩), .int .u64 v, .int .i64 n] w fun e w' => e = .returned (.tuple #[]) ∧ WrAt B w' b (l ++ beL v (szB n) (szB n)) ∧ Kp b w w' := by
  have hb := h.lt
  obtain ⟨v0, h1, h2, h3, h4⟩ := h
  obtain ⟨a, c, rfl, hr⟩ := Rd.own h2
  have c0 : w.cell? ⟨b, 0, none⟩ = some (.slice a l.length c) := h1.cell rfl
  have hp := Lib.hid (put_ints a l.length c l v n w hr (by omega) hv0 hv1)
  clear h2 hr
  go_enter Try.func25, Try.ntmps25
  go_wp2_with fail
  refine hp.out.mono ?_
  rintro e w1 ⟨a', c', rfl, hr, hown, hb1⟩
  have g1 := h1.below hb1 hb
  have d0 : w1.cell? ⟨b, 0, none⟩ = some (.slice a l.length c) := g1.cell rfl
  have f0 := g1.fz 0
  have HN : Hid ((Value.slice a' (l.length + szB n) c').ownBlock ≠ some b) := Lib.hid (fun e => by have := (hown.lt b e).1; omega)
  have HR := Lib.hid (own_mono hown (show B ≤ w.heap.size by omega))
  clear hr hown
  go_wp2
  go_end0
  refine ⟨rfl, ⟨_, g1.set 0 _, ?_, HN.out, h4⟩, (Kp.ofBelow hb1).setCell ⟨b, 0, none⟩ rfl _⟩
  rw [List.length_append, beL_len]
  exact own_keep HR.out fun g hg _ => ((Kp.refl b w1).setCell ⟨b, 0, none⟩ rfl _).block g (HR.out.lt g hg).2 (fun e => HN.out (by rw [hg, e]))
theorem wnum1 (v : Int) (h : WrAt B w b l) (hl : l.length ≤ 100000) (hv0 : 0 ≤ v) (hv1 : v < 18446744073709551616) :
    Calls Try.prog 25 #[.pointer (some ⟨b, 0, none⟩), .int .u64 v, .int .i64 1] w fun e w' => e = .returned (.tuple #[]) ∧ WrAt B w' b (l ++ beL v 1 1) ∧ Kp b w w' := wnum_any v 1 h hl hv0 hv1
theorem wnum2 (v : Int) (h : WrAt B w b l) (hl : l.length ≤ 100000) (hv0 : 0 ≤ v) (hv1 : v < 18446744073709551616) :
    Calls Try.prog 25 #[.pointer (some ⟨b, 0, none⟩), .int .u64 v, .int .i64 2] w fun e w' => e = .returned (.tuple #[]) ∧ WrAt B w' b (l ++ beL v 2 2) ∧ Kp b w w' := wnum_any v 2 h hl hv0 hv1
theorem wnum4 (v : Int) (h : WrAt B w b l) (hl : l.length ≤ 100000) (hv0 : 0 ≤ v) (hv1 : v < 18446744073709551616) :
    Calls Try.prog 25 #[.pointer (some ⟨b, 0, none⟩), .int .u64 v, .int .i64 4] w fun e w' => e = .returned (.tuple #[]) ∧ WrAt B w' b (l ++ beL v 4 4) ∧ Kp b w w' := wnum_any v 4 h hl hv0 hv1
theorem wnum8 (v : Int) (h : WrAt B w b l) (hl : l.length ≤ 100000) (hv0 : 0 ≤ v) (hv1 : v < 18446744073709551616) :
    Calls Try.prog 25 #[.pointer (some ⟨b, 0, none⟩), .int .u64 v, .int .i64 8] w fun e w' => e = .returned (.tuple #[]) ∧ WrAt B w' b (l ++ beL v 8 8) ∧ Kp b w w' := wnum_any v 8 h hl hv0 hv1

theorem vcells {W : World} {g : Nat} {t : TypeId} {v : Vw} (h : BlkAt W g t #[.int .u64 v.num, .int .u64 v.ce, .int .i64 v.cr, .int .u64 v.mem]) : W.cell? ⟨g, 0, none⟩ = some (.int .u64 v.num) ∧ W.cell? ⟨g, 1, none⟩ = some (.int .u64 v.ce) ∧ W.cell? ⟨g, 2, none⟩ = some (.int .i64 v.cr) ∧ W.cell? ⟨g, 3, none⟩ = some (.int .u64 v.mem) := ⟨h.cell rfl, h.cell rfl, h.cell rfl, h.cell rfl⟩
theorem Kp.pre {b : Nat} {x y z : World} (k : Kp b y z) (h : Below x.heap.size x y) : Kp b x z := (Kp.ofBelow h).trans k
set_option maxHeartbeats 1600000 in
theorem wview_yes (v : Vw) (hw : v.Wf) (ho : v.ok = true) (h : WrAt B w b l) (hl : l.length ≤ 90000) :
    Calls Try.prog 32 #[.pointer (some ⟨b, 0, none⟩), .agg #[.int .u64 v.num, .int .u64 v.ce, .int .i64 v.cr, .int .u64 v.mem]] w fun e w' => e = .returned (.tuple #[]) ∧ WrAt B w' b (l ++ vwB v) ∧ Kp b w w' := by
  have hb := h.lt
  obtain ⟨w1, w2, _, w4⟩ := hw
  obtain ⟨o1, o2⟩ : 0 ≤ v.cr ∧ v.cr < 64 := of_decide_eq_true ho
  clear ho
  have hne : w.heap.size ≠ b := by omega
  have hbx : Below w.heap.size w (w.alloc (.cells #[.int .u64 v.num, .int .u64 v.ce, .int .i64 v.cr, .int .u64 v.mem] 27)) := (Below.refl _ _).alloc (Nat.le_refl _) _
  have B1 := BlkAt.new w 27 #[.int .u64 v.num, .int .u64 v.ce, .int .i64 v.cr, .int .u64 v.mem]
  have h1 := h.below hbx
  obtain ⟨c0, c1, c2, c3⟩ := vcells B1
  have H := Lib.hid (show vwB v = beL v.num 8 8 ++ (beL v.ce 8 8 ++ (beL v.cr 1 1 ++ beL v.mem 8 8)) from rfl)
  clear h
  go_enter Try.func32, Try.ntmps32
  go_wp2_with fail
  generalize w.alloc _ = wa at *
  refine (bad_f (by simp; omega) 1 _).mono ?_
  rintro e w' ⟨rfl, rfl⟩
  (go_wp2_with fail; refine (wnum8 _ h1 (by first | omega | (simp only [List.length_append, beL_len]; omega)) (by omega) (by omega)).mono ?_; rintro e wb ⟨rfl, hwb, kwb⟩)
  have B2 := kwb.blk B1 hne
  clear c0 c1 c2 c3
  obtain ⟨c0, c1, c2, c3⟩ := vcells B2
  (go_wp2_with fail; refine (wnum8 _ hwb (by first | omega | (simp only [List.length_append, beL_len]; omega)) (by omega) (by omega)).mono ?_; rintro e wc ⟨rfl, hwc, kwc⟩)
  have B3 := kwc.blk B2 hne
  clear c0 c1 c2 c3
  obtain ⟨c0, c1, c2, c3⟩ := vcells B3
  (go_wp2_with fail; refine (wnum1 _ hwc (by first | omega | (simp only [List.length_append, beL_len]; omega)) (by omega) (by omega)).mono ?_; rintro e wd ⟨rfl, hwd, kwd⟩)
  have B4 := kwd.blk B3 hne
  clear c0 c1 c2 c3
  obtain ⟨c0, c1, c2, c3⟩ := vcells B4
  (go_wp2_with fail; refine (wnum8 _ hwd (by first | omega | (simp only [List.length_append, beL_len]; omega)) (by omega) (by omega)).mono ?_; rintro e we ⟨rfl, hwe, kwe⟩)
  go_wp2
  go_end0
  refine ⟨rfl, ?_, ?_⟩
  · rw [H.out]; simpa only [List.append_assoc] using hwe
  · exact ((((Kp.ofBelow hbx).trans kwb).trans kwc).trans kwd).trans kwe
set_option maxHeartbeats 1600000 in
theorem wview_no (v : Vw) (ho : v.ok = false) :
    Calls Try.prog 32 #[.pointer (some ⟨b, 0, none⟩), .agg #[.int .u64 v.num, .int .u64 v.ce, .int .i64 v.cr, .int .u64 v.mem]] w fun e w' => e = pan 1 ∧ Below w.heap.size w w' := by
  have hbx : Below w.heap.size w (w.alloc (.cells #[.int .u64 v.num, .int .u64 v.ce, .int .i64 v.cr, .int .u64 v.mem] 27)) := (Below.refl _ _).alloc (Nat.le_refl _) _
  have o1 : ¬ (0 ≤ v.cr ∧ v.cr < 64) := of_decide_eq_false ho
  clear ho
  by_cases h0 : v.cr < 0
  · clear o1
    go_enter Try.func32, Try.ntmps32
    go_wp2_with fail
    refine (bad_t (by first | (simp; done) | (simp; omega)) 1 _).mono ?_
    rintro e w' ⟨rfl, rfl⟩
    exact ⟨rfl, rfl, hbx⟩
  · have h1 : 64 ≤ v.cr := by omega
    clear o1
    go_enter Try.func32, Try.ntmps32
    go_wp2_with fail
    refine (bad_t (by first | (simp; done) | (simp; omega)) 1 _).mono ?_
    rintro e w' ⟨rfl, rfl⟩
    exact ⟨rfl, rfl, hbx⟩
end
section
variable {B : Nat} {W W' : World} {b : Nat} {cs : Array Value} {t e : TypeId} {v : Value} {n sz : Nat} {xs : List Value}
theorem own_ne (h : W.ownsRow B e sz v n xs) (hb : BlkAt W b t cs) (ht : t ≠ e) : v.ownBlock ≠ some b := by
  intro hv
  rcases h.2 with ⟨rfl, _⟩ | ⟨g, cap, cur, rfl, _, hg, _⟩
  · cases hv
  · have : g = b := by simpa [Value.ownBlock] using hv
    subst this
    have := hb.symm.trans hg
    simp only [Option.some.injEq, Obj.cells.injEq] at this
    exact ht this.2.1
theorem blk_grown (hb : BlkAt W b t cs) (hg : W.grownBy W' v.ownBlock) (hne : v.ownBlock ≠ some b) : BlkAt W' b t cs := (hg.block b hb.lt (fun e => hne e.symm)).trans hb
end
end Go.Proofs.Ytdfnpaaejjediaa
