/- names: the walk of NamesTell -/
import Derived.Test.YtcgfpolklfhppaaDoorNameT
import Derived.Test.YtcgfpolklfhppaaDoorNameN
namespace Go.Proofs.YtcgfpolklfhppaaDoor
open Go.RowKit Go.Sort

set_option maxHeartbeats 12800000 in
set_option maxRecDepth 100000 in
theorem tell_any (n m : Nat) (hn : n < 18446744073709551616) (hm : m < 18446744073709551616) (a : Option Addr) (cn c : Nat) (l : List It) (hw : ∀ x ∈ l, x.Wf) (ht : ∀ x ∈ l, x.Ty) (sure : Bool) (na : Option Addr) (nn nc : Nat) (nl : List Nm) (p : Int) (w : World) (hr : RdI w a cn c l) (hrn : RdM w na nn nc nl) (hT : Tab w) :
    Calls Tryd.prog 3 #[.int .u64 n, .int .u64 m, .slice a cn c, .bool sure, .slice na nn nc, .int .i64 p] w fun e w' => e = .returned (.bool true) ∧ Below w.heap.size w w' := by
  have hmx := Rd.le_max hr
  have hmx2 := Rd.le_max hrn
  unfold maxLen at hmx hmx2
  have hAw := Lib.hid (awake_any w hT)
  go_enter Tryd.func3, Tryd.ntmps3
  go_wp2_with fail
  refine hAw.out.mono ?_
  rintro e w1 ⟨rfl, hb1⟩
  clear hAw
  by_cases hgt : 200 < cn
  · have hgtI : (200 : Int) < cn := by omega
    go_wp2
    go_ret
    exact ⟨rfl, hb1⟩
  have hgtI : ¬ (200 : Int) < cn := by omega
  by_cases hgt2 : 5000 < nn
  · have hgtI2 : (5000 : Int) < nn := by omega
    go_wp2
    go_ret
    exact ⟨rfl, hb1⟩
  have hgtI2 : ¬ (5000 : Int) < nn := by omega
  have HRI := Lib.hid (fun W (h : Below w.heap.size w W) => show RdI W a cn c l from Rd.below hr h (Nat.le_refl _))
  have HRN := Lib.hid (fun W (h : Below w.heap.size w W) => show RdM W na nn nc nl from Rd.below hrn h (Nat.le_refl _))
  have HTB := Lib.hid (fun W (h : Below w.heap.size w W) => show Tab W from hT.below h hT.1)
  have HOF := Lib.hid (fun W (h : Below w.heap.size w W) => itof_any a cn c l hw ht (by omega) W (HRI.out W h))
  have HO1 := Lib.hid (fun W (h : Below w.heap.size w W) => nof_any p na nn nc nl W (HRN.out W h))
  have HO2 := Lib.hid (fun W (h : Below w.heap.size w W) => rnof_any p na nn nc nl W (HRN.out W h))
  have HS := Lib.hid (fun W (h : Below w.heap.size w W) => stay_any n m hm a cn c l hw W (HRI.out W h) (HTB.out W h))
  have HJ := Lib.hid (fun W (h : Below w.heap.size w W) => joins_any n m hm a cn c l hw W (HRI.out W h) (HTB.out W h))
  have HN := Lib.hid (fun W (h : Below w.heap.size w W) => names_eq (n := n) hm hw sure (HRI.out W h) (HTB.out W h))
  have HRS := Lib.hid (fun W a' c' (h : RdI W a' cn c' l) => rstay_any n m hm a' cn c' l hw W h)
  have HRNM := Lib.hid (fun W a' c' (h : RdI W a' cn c' l) => rnames_any n m hm a' cn c' l hw sure W h)
  have hst := stayN_lt n m l
  clear hr hrn hT ht hw
  generalize ofM nl p = rr at *
  obtain ⟨nm, ok⟩ := rr
  unfold nmV at HO1 HO2
  dsimp only at HO1 HO2
  go_wp2_with fail
  refine (HOF.out _ hb1).mono ?_
  rintro e w2 ⟨ca, cc, rfl, q0, b2⟩
  replace hb1 := belS hb1 b2
  clear b2
  go_wp2_with fail
  refine (HO1.out _ hb1).mono ?_
  rintro e w3 ⟨rfl, b3⟩
  replace q0 : RdI w3 ca cn cc l := Rd.below q0 b3 (Nat.le_refl _)
  replace hb1 := belS hb1 b3
  clear b3
  have BA := BlkAt.new w3 30 #[.int .i64 nm.proc, .int .u32 nm.inc]
  have hK4 : Below w3.heap.size w3 (w3.alloc (.cells #[.int .i64 nm.proc, .int .u32 nm.inc] 30)) := (Below.refl _ _).alloc (Nat.le_refl _) _
  replace q0 := Rd.below q0 hK4 (Nat.le_refl _)
  replace hb1 := belS hb1 hK4
  clear hK4
  go_wp2_with fail
  generalize w3.alloc _ = w4 at *
  refine (HO2.out _ hb1).mono ?_
  rintro e w5 ⟨rfl, b5⟩
  replace q0 : RdI w5 ca cn cc l := Rd.below q0 b5 (Nat.le_refl _)
  replace BA := BA.below b5 BA.lt
  replace hb1 := belS hb1 b5
  clear b5
  have hg := BA.lt
  generalize w3.heap.size = g at *
  have BB := BlkAt.new w5 30 #[.int .i64 nm.proc, .int .u32 nm.inc]
  have hK6 : Below w5.heap.size w5 (w5.alloc (.cells #[.int .i64 nm.proc, .int .u32 nm.inc] 30)) := (Below.refl _ _).alloc (Nat.le_refl _) _
  replace q0 := Rd.below q0 hK6 (Nat.le_refl _)
  replace BA := BA.below hK6 BA.lt
  replace hb1 := belS hb1 hK6
  clear hK6
  go_wp2_with fail
  generalize w5.alloc _ = w6 at *
  refine (HRS.out _ _ _ q0).mono ?_
  rintro e w7 ⟨rfl, b7⟩
  replace q0 : RdI w7 ca cn cc l := Rd.below q0 b7 (Nat.le_refl _)
  replace BA := BA.below b7 BA.lt
  replace BB := BB.below b7 BB.lt
  replace hb1 := belS hb1 b7
  clear b7
  generalize w5.heap.size = g2 at *
  have hAN : bits BinOp.andNot IntKind.u64 (m : Int) (stayN n m l : Nat) = (butN m (stayN n m l) : Nat) := u64_andNot_nat m (stayN n m l) hm hst
  generalize namesN n m l sure = ln at *
  generalize stayN n m l = st at *
  generalize butN m st = bm at *
  go_wp2_with fail
  refine (HS.out _ hb1).mono ?_
  rintro e w8 ⟨rfl, b8⟩
  replace q0 : RdI w8 ca cn cc l := Rd.below q0 b8 (Nat.le_refl _)
  replace BA := BA.below b8 BA.lt
  replace BB := BB.below b8 BB.lt
  replace hb1 := belS hb1 b8
  go_wp2_with fail
  refine (HJ.out _ hb1).mono ?_
  rintro e w9 ⟨rfl, b9⟩
  replace q0 : RdI w9 ca cn cc l := Rd.below q0 b9 (Nat.le_refl _)
  replace BA := BA.below b9 BA.lt
  replace BB := BB.below b9 BB.lt
  replace hb1 := belS hb1 b9
  go_wp2_with fail
  refine (HN.out _ hb1).mono ?_
  rintro e w10 ⟨a1, c1, rfl, q1, b10⟩
  replace q0 : RdI w10 ca cn cc l := Rd.below q0 b10 (Nat.le_refl _)
  replace BA := BA.below b10 BA.lt
  replace BB := BB.below b10 BB.lt
  replace hb1 := belS hb1 b10
  go_wp2_with fail
  refine (HRNM.out _ _ _ q0).mono ?_
  rintro e w11 ⟨a2, c2, rfl, q2, b11⟩
  replace q1 : RdM w11 a1 (cardN m) c1 ln := Rd.below q1 b11 (Nat.le_refl _)
  replace BA := BA.below b11 BA.lt
  replace BB := BB.below b11 BB.lt
  replace hb1 := belS hb1 b11
  go_wp2_with fail
  refine (rnames_eq ln a1 _ c1 a2 c2 _ q1 q2).mono ?_
  rintro e w12 ⟨rfl, b12⟩
  replace BA := BA.below b12 BA.lt
  replace BB := BB.below b12 BB.lt
  replace hb1 := belS hb1 b12
  have x0 := BA.cell (i := 0) rfl
  have x1 := BA.cell (i := 1) rfl
  have y0 := BB.cell (i := 0) rfl
  have y1 := BB.cell (i := 1) rfl
  clear q0 q1 q2 b8 b9 b10 b11 b12
  go_wp2
  go_ret
  exact ⟨rfl, hb1⟩
def RName : World → List Value → Int × Int → Prop := RPair (RInt .i64) (RInt .u32)
theorem opens_names {H : Type} {enc : TypeId × Value → H} {W : World} : Opens enc Tryd.prog W 24 (RSlc RName 2) :=
  opens_slice Tryd.underlying24 (by kernel_rfl) (by decide) (opens_struct Tryd.underlying30 (by kernel_rfl) (OpensFs.cons (sz := 1) (total := 1) rfl (by kernel_rfl) (opens_int Tryd.underlying3) (OpensFs.one rfl (by kernel_rfl) (opens_int Tryd.underlying28))))
def toNm (x : Int × Int) : Nm := ⟨x.1, x.2.toNat⟩
theorem RName.nm {w : World} {cs : List Value} {x : Int × Int} (h : RName w cs x) : cs = nmF (toNm x) := by
  obtain ⟨p, i⟩ := x
  obtain ⟨_, _, rfl, ⟨rfl, _⟩, rfl, f2⟩ := h
  have g2 := wf_u32_bounds f2
  simp only [nmF, toNm]
  rw [Int.toNat_of_nonneg g2.1]
  rfl
theorem RSl.nms {w : World} {a : Option Addr} {n c : Nat} {l : List (Int × Int)} (h : RSl RName 2 w a n c l) : RdM w a n c (l.map toNm) := by
  show Rd w 2 a n c ((l.map toNm).flatMap nmF)
  rw [List.flatMap_map]
  exact h.flat (fun x => nmF (toNm x)) (fun _ => rfl) (by decide) (fun w cs x hx => hx.nm)
theorem RSl.its2 {α : Type} {R : World → List Value → α → Prop} {Q : It → Prop} (hR : ∀ w cs x, R w cs x → ∃ y : It, y.cs = cs ∧ (y.Wf ∧ Q y)) {w : World} {a : Option Addr} {n c : Nat} {l : List α} (h : RSl R 18 w a n c l) : ∃ L : List It, RdI w a n c L ∧ (∀ x ∈ L, x.Wf) ∧ ∀ x ∈ L, Q x := by
  rcases h.2 with h0 | ⟨b, off, rfl, hb, hc⟩
  · subst h0
    exact ⟨[], ⟨⟨rfl, h.1.2.1, h.1.2.2.1, h.1.2.2.2⟩, .inl rfl⟩, (fun x hx => by cases hx), fun x hx => by cases hx⟩
  · have hl := h.1.1
    have hy : ∀ i, i < n → ∃ y : It, (y.Wf ∧ Q y) ∧ ∀ j u, y.cs[j]? = some u → w.cell? ⟨b, off + i * 18 + j, none⟩ = some u := fun i hi => by
      obtain ⟨cs, _, h1, h2⟩ := hc i (by omega)
      obtain ⟨y, rfl, hy⟩ := hR _ _ _ h2
      exact ⟨y, hy, h1⟩
    have hW : ∀ x ∈ List.ofFn (fun i : Fin n => Classical.choose (hy i.1 i.2)), x.Wf ∧ Q x := by
      intro x hx
      obtain ⟨i, rfl⟩ := List.mem_ofFn.1 hx
      exact (Classical.choose_spec (hy i.1 i.2)).1
    refine ⟨List.ofFn (fun i : Fin n => Classical.choose (hy i.1 i.2)), RdI.of (fun x hx => (hW x hx).1) (by simp) h.1.2.1 h.1.2.2.1 hb (fun i hi j u hu => ?_), fun x hx => (hW x hx).1, fun x hx => (hW x hx).2⟩
    rw [List.getElem_ofFn] at hu
    exact (Classical.choose_spec (hy i (by simpa using hi))).2 j u hu
theorem tell_law (x y : Int) (a : Option Addr) (n c : Nat) (sure : Bool) (na : Option Addr) (nn nc : Nat) (p : Int) (w : World) (hT : Tab w) (hx : (Lit.int .u64 x).wf = true) (hy : (Lit.int .u64 y).wf = true) (hl : ∃ l, RSl RItem 18 w a n c l) (hm : ∃ l, RSl RName 2 w na nn nc l) (hp : (Lit.int .i64 p).wf = true) :
    Calls Tryd.prog 3 #[.int .u64 x, .int .u64 y, .slice a n c, .bool sure, .slice na nn nc, .int .i64 p] w fun e w' => e = .returned (.bool true) ∧ Below w.heap.size w w' := by
  obtain ⟨l, hl⟩ := hl
  obtain ⟨L, h1, h2, h3⟩ := hl.its2 (fun _ _ _ h => h.ty)
  obtain ⟨l2, hm⟩ := hm
  obtain ⟨x, rfl, gx⟩ := u64n hx
  obtain ⟨y, rfl, gy⟩ := u64n hy
  exact tell_any x y gx gy a n c L h2 h3 sure na nn nc _ p w h1 hm.nms hT
end Go.Proofs.YtcgfpolklfhppaaDoor
