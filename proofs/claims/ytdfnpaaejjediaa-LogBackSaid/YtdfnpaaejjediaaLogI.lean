/- log: the walk of PrintItem, of what a process knows; of it all -/
import Derived.Test.YtdfnpaaejjediaaLogH
namespace Go.Proofs.Ytdfnpaaejjediaa
open Go.RowKit

set_option maxHeartbeats 6400000 in
set_option maxRecDepth 100000 in
theorem pitem2 (x : It) (D : ByteArray) (pa : Option Addr) (pn pc : Nat) (w : World) (hw : x.Wf) (hp : RdV w pa pn pc x.rc.pend) (hk : x.kind = 2) : Calls Try.prog 11 #[.agg #[.int .i64 x.kind, .string D, .int .u32 x.inc, .int .u64 x.holds, .bool x.has, .bool x.direct, .int .u64 x.rc.last.num, .int .u64 x.rc.last.ce, .int .i64 x.rc.last.cr, .int .u64 x.rc.last.mem, .slice pa pn pc, .int .u64 x.view.num, .int .u64 x.view.ce, .int .i64 x.view.cr, .int .u64 x.view.mem, .int .u64 x.number, .int .i64 x.index, .int .i64 x.total]] w fun e w' => e = .returned (.tuple #[.string (prI x), .int .i64 (itE x)]) ∧ Below w.heap.size w w' := by
  (have hmf : ∀ (fn : Fn) (first cap : Array Value) (w : World), (Instr.makeFunc fn first cap).run Try.prog w = .ok (.func fn first cap) w := fun _ _ _ _ => rfl)
  have HE : itE x = recE x.rc := by unfold itE; rw [if_neg (by omega), if_pos hk]
  have HB := Lib.hid (itB2 hk)
  obtain ⟨hw1, hw2, hw3, _, _, _⟩ := hw
  have hfl := flN_le x.has x.direct
  have hFl := Lib.hid (fun W => flags_any x D pa pn pc W)
  rw [hk] at hFl ⊢
  clear hk
  obtain ⟨wS, hwS, PS, HW⟩ := PiS.start w #[.int .i64 2, .string D, .int .u32 x.inc, .int .u64 x.holds, .bool x.has, .bool x.direct, .int .u64 x.rc.last.num, .int .u64 x.rc.last.ce, .int .i64 x.rc.last.cr, .int .u64 x.rc.last.mem, .slice pa pn pc, .int .u64 x.view.num, .int .u64 x.view.ce, .int .i64 x.view.cr, .int .u64 x.view.mem, .int .u64 x.number, .int .i64 x.index, .int .i64 x.total]
  replace hwS := Lib.hid hwS
  (obtain ⟨⟨c0, c1, c2, c3, c4, c5⟩, ⟨c6, c7, c8, c9, c10⟩, ⟨c11, c12, c13, c14⟩, c15, c16, c17⟩ := icells PS.A)
  go_enter_defers Try.func11, Try.ntmps11
  go_wp2_with fail
  rw [← hwS.out]
  refine (bad_f (by first | (simp; done) | (simp; omega)) 10 _).mono ?_
  rintro e w' ⟨rfl, rfl⟩
  (go_wp2_with fail; (refine (wnum1 _ HW (by first | omega | (simp only [List.length_append, beL_len, vwB_len, recB_len, List.length_nil]; omega)) (by omega) (by omega)).mono ?_; rintro e wa ⟨rfl, hwa, kwa⟩; have Pwa := PS.keep kwa))
  (clear c0 c1 c2 c3 c4 c5 c6 c7 c8 c9 c10 c11 c12 c13 c14 c15 c16 c17)
  (obtain ⟨⟨c0, c1, c2, c3, c4, c5⟩, ⟨c6, c7, c8, c9, c10⟩, ⟨c11, c12, c13, c14⟩, c15, c16, c17⟩ := icells Pwa.A)
  (go_wp2_with fail; (refine (wnum4 _ hwa (by first | omega | (simp only [List.length_append, beL_len, vwB_len, recB_len, List.length_nil]; omega)) (by omega) (by omega)).mono ?_; rintro e wb ⟨rfl, hwb, kwb⟩; have Pwb := Pwa.keep kwb))
  (clear c0 c1 c2 c3 c4 c5 c6 c7 c8 c9 c10 c11 c12 c13 c14 c15 c16 c17)
  (obtain ⟨⟨c0, c1, c2, c3, c4, c5⟩, ⟨c6, c7, c8, c9, c10⟩, ⟨c11, c12, c13, c14⟩, c15, c16, c17⟩ := icells Pwb.A)
  (go_wp2_with fail; (refine (wnum8 _ hwb (by first | omega | (simp only [List.length_append, beL_len, vwB_len, recB_len, List.length_nil]; omega)) (by omega) (by omega)).mono ?_; rintro e wc ⟨rfl, hwc, kwc⟩; have Pwc := Pwb.keep kwc))
  (clear c0 c1 c2 c3 c4 c5 c6 c7 c8 c9 c10 c11 c12 c13 c14 c15 c16 c17)
  (obtain ⟨⟨c0, c1, c2, c3, c4, c5⟩, ⟨c6, c7, c8, c9, c10⟩, ⟨c11, c12, c13, c14⟩, c15, c16, c17⟩ := icells Pwc.A)
  go_wp2_with fail
  refine (hFl.out _).mono ?_
  rintro e wd ⟨rfl, hbd⟩
  have hwd := hwc.below hbd
  have Pwd := Pwc.below hbd
  (clear c0 c1 c2 c3 c4 c5 c6 c7 c8 c9 c10 c11 c12 c13 c14 c15 c16 c17)
  (obtain ⟨⟨c0, c1, c2, c3, c4, c5⟩, ⟨c6, c7, c8, c9, c10⟩, ⟨c11, c12, c13, c14⟩, c15, c16, c17⟩ := icells Pwd.A)
  generalize flN x.has x.direct = fl at *
  (go_wp2_with fail; (refine (wnum1 _ hwd (by first | omega | (simp only [List.length_append, beL_len, vwB_len, recB_len, List.length_nil]; omega)) (by omega) (by omega)).mono ?_; rintro e we ⟨rfl, hwe, kwe⟩; have Pwe := Pwd.keep kwe))
  (clear c0 c1 c2 c3 c4 c5 c6 c7 c8 c9 c10 c11 c12 c13 c14 c15 c16 c17)
  (obtain ⟨⟨c0, c1, c2, c3, c4, c5⟩, ⟨c6, c7, c8, c9, c10⟩, ⟨c11, c12, c13, c14⟩, c15, c16, c17⟩ := icells Pwe.A)
  have hR := Lib.hid (wrec_any (w := we) x.rc pa pn pc hw3 (hp.below Pwe.bel (Nat.le_refl _)) (fun h g off e => by have := Rd.blkLt hp h g off e; omega) hwe (by simp only [List.length_append, beL_len, List.length_nil]; omega))
  go_wp2_with fail
  refine hR.out.mono ?_
  rintro e wf ⟨⟨hE, rfl, hwf⟩ | ⟨hE, rfl⟩, kwf⟩
  · have hE0 := hE
    rw [hE] at HE
    have HP := Lib.hid (show prI x = strOfNums (itB x) from if_pos HE)
    replace HE := Lib.hid HE
    have hN : x.rc.pend.length ≤ 32 := by
      unfold recE at hE0
      split at hE0
      · cases hE0
      · split at hE0
        · cases hE0
        · omega
    have Pwf := Pwe.keep kwf
    (clear c0 c1 c2 c3 c4 c5 c6 c7 c8 c9 c10 c11 c12 c13 c14 c15 c16 c17)
    (obtain ⟨⟨c0, c1, c2, c3, c4, c5⟩, ⟨c6, c7, c8, c9, c10⟩, ⟨c11, c12, c13, c14⟩, c15, c16, c17⟩ := icells Pwf.A)
    obtain ⟨sa, sn, sc, s0, hr, hn⟩ := hwf.str
    have hnI : (sn : Int) ≤ 1024 := by have := hn.out; simp only [List.length_append, beL_len, vwB_len, recB_len, List.length_nil] at this; omega
    clear hE hE0 hN
    (have R3 := Pwf.res; obtain ⟨t0, t1, t2, t3, _⟩ := Pwf.res; go_wp2_with (first | (go_at_call 30; refine (bad_f (by first | (simp; done) | (simp; omega)) 3 _).mono ?_; rintro e w' ⟨rfl, rfl⟩) | (refine wpList_bytes_str (t := 68) (d := 9) (e := 5) Try.underlying68 Try.underlying5 Try.underlying9 rfl (.tmp 112) rfl rfl hr ?_; intro S hS hS1 hS2)); (refine leaves_cons (f := 29) (args := #[.pointer (some ⟨w.heap.size + 1, 0, none⟩), .pointer (some ⟨w.heap.size + 1 + 1, 0, none⟩)]) (by simp) (by simp [go_sem]) ?_); refine (catchI_idle _ _ _).mono ?_; rintro e u' w'' ⟨rfl, rfl, rfl⟩; obtain ⟨d0, d1, _, _, _⟩ := R3.set (.string S) (.int .i64 0); have hbF := Pwf.fin (.string S) (.int .i64 0); have hS2 : S = prI x := (by (rw [hS.out, HP.out, HB.out]) <;> simp); simp [Leaves, settle, results, Try.results11, go_sem, d0, d1]; exact ⟨⟨hS2, HE.out.symm⟩, hbF⟩)
  · have HP := Lib.hid (show prI x = ⟨#[]⟩ from if_neg (by rw [HE]; exact hE))
    have Pwf := Pwe.keep kwf
    have HEr := Lib.hid HE
    clear HE
    generalize recE x.rc = er at *
    unfold pan
    (refine leaves_cons (f := 29) (args := #[.pointer (some ⟨w.heap.size + 1, 0, none⟩), .pointer (some ⟨w.heap.size + 1 + 1, 0, none⟩)]) (by simp) (by simp [go_sem]) ?_)
    refine (catchI_err _ _ _ _ _ hE [] _ Pwf.res).mono ?_
    rintro e u' w'' ⟨rfl, rfl, rfl⟩
    obtain ⟨d0, d1, _, _, _⟩ := Pwf.res.set (.string ⟨#[]⟩) (.int .i64 er)
    have hbF := Pwf.fin (.string ⟨#[]⟩) (.int .i64 er)
    simp [Leaves, settle, results, Try.results11, go_sem, d0, d1]
    exact ⟨⟨HP.out.symm, HEr.out.symm⟩, hbF⟩
theorem pitem_any (x : It) (D : ByteArray) (pa : Option Addr) (pn pc : Nat) (w : World) (hw : x.Wf) (hd : x.data = bI D) (hD : D.size ≤ 5000) (hp : RdV w pa pn pc x.rc.pend) : Calls Try.prog 11 #[.agg #[.int .i64 x.kind, .string D, .int .u32 x.inc, .int .u64 x.holds, .bool x.has, .bool x.direct, .int .u64 x.rc.last.num, .int .u64 x.rc.last.ce, .int .i64 x.rc.last.cr, .int .u64 x.rc.last.mem, .slice pa pn pc, .int .u64 x.view.num, .int .u64 x.view.ce, .int .i64 x.view.cr, .int .u64 x.view.mem, .int .u64 x.number, .int .i64 x.index, .int .i64 x.total]] w fun e w' => e = .returned (.tuple #[.string (prI x), .int .i64 (itE x)]) ∧ Below w.heap.size w w' := by
  by_cases hk : x.kind < 1 ∨ 4 < x.kind
  · exact pitem_bad x D pa pn pc w hk
  · have : x.kind = 1 ∨ x.kind = 2 ∨ x.kind = 3 ∨ x.kind = 4 := by omega
    rcases this with h | h | h | h
    · exact pitem1 x D pa pn pc w hd hD h
    · exact pitem2 x D pa pn pc w hw hp h
    · exact pitem3 x D pa pn pc w hw h
    · exact pitem4 x D pa pn pc w hw hd hD h
end Go.Proofs.Ytdfnpaaejjediaa
