/- text: an event as an argument -/
import Derived.Test.YtpkknhhohbobaaaDoorTxtFa
import Derived.Test.YtpkknhhohbobaaaDoorTxtO
namespace Go.Proofs.YtpkknhhohbobaaaDoor
set_option linter.unusedSimpArgs false
set_option linter.unusedVariables false
open Go.RowKit
def RCf := RPair (RInt .u64) (RInt .i64)
def RNm := RPair (RInt .i64) (RInt .u32)
def RMs := RPair (RInt .i64) (RPair (RInt .u32) (RPair (RInt .u64) (RPair (RInt .i64) (RPair (RSlb (RInt .u32) 1) RStrb))))
def RVw := RPair (RInt .u64) (RPair RCf (RInt .u64))
def REv := RPair (RInt .i64) (RPair (RInt .i64) (RPair RCf (RPair RCf (RPair (RInt .u64) (RPair RMs (RPair RVw (RPair (RSlb RNm 2) RStrb)))))))
section
variable {H : Type} {enc : TypeId × Value → H} {W : World}
theorem bopens_event : BOpens enc Tryd.prog W 33 REv :=
  have oi := BOpens.of (opens_int (enc := enc) (w := W) Tryd.underlying3)
  have o64 := BOpens.of (opens_int (enc := enc) (w := W) Tryd.underlying22)
  have o32 := BOpens.of (opens_int (enc := enc) (w := W) Tryd.underlying25)
  have os := bopens_str (enc := enc) (w := W) Tryd.underlying9
  have oc : BOpens enc Tryd.prog W 24 RCf := BOpens.of (opens_struct Tryd.underlying24 (by kernel_rfl) (OpensFs.cons (sz := 1) (total := 1) rfl (by kernel_rfl) (opens_int Tryd.underlying22) (OpensFs.one rfl (by kernel_rfl) (opens_int Tryd.underlying3))))
  have on : BOpens enc Tryd.prog W 86 RNm := BOpens.of (opens_struct Tryd.underlying86 (by kernel_rfl) (OpensFs.cons (sz := 1) (total := 1) rfl (by kernel_rfl) (opens_int Tryd.underlying3) (OpensFs.one rfl (by kernel_rfl) (opens_int Tryd.underlying25))))
  have om : BOpens enc Tryd.prog W 28 RMs := bopens_struct Tryd.underlying28 (by kernel_rfl) (BOpensFs.cons (sz := 1) (total := 5) rfl (by kernel_rfl) oi (BOpensFs.cons (sz := 1) (total := 4) rfl (by kernel_rfl) o32 (BOpensFs.cons (sz := 1) (total := 3) rfl (by kernel_rfl) o64 (BOpensFs.cons (sz := 1) (total := 2) rfl (by kernel_rfl) oi (BOpensFs.cons (sz := 1) (total := 1) rfl (by kernel_rfl) (bopens_slice Tryd.underlying26 (by kernel_rfl) (by decide) o32) (BOpensFs.one rfl (by kernel_rfl) os))))))
  have ov : BOpens enc Tryd.prog W 30 RVw := bopens_struct Tryd.underlying30 (by kernel_rfl) (BOpensFs.cons (sz := 1) (total := 3) rfl (by kernel_rfl) o64 (BOpensFs.cons (sz := 2) (total := 1) rfl (by kernel_rfl) oc (BOpensFs.one rfl (by kernel_rfl) o64)))
  bopens_struct Tryd.underlying33 (by kernel_rfl) (BOpensFs.cons (sz := 1) (total := 18) rfl (by kernel_rfl) oi (BOpensFs.cons (sz := 1) (total := 17) rfl (by kernel_rfl) oi (BOpensFs.cons (sz := 2) (total := 15) rfl (by kernel_rfl) oc (BOpensFs.cons (sz := 2) (total := 13) rfl (by kernel_rfl) oc (BOpensFs.cons (sz := 1) (total := 12) rfl (by kernel_rfl) o64 (BOpensFs.cons (sz := 6) (total := 6) rfl (by kernel_rfl) om (BOpensFs.cons (sz := 4) (total := 2) rfl (by kernel_rfl) ov (BOpensFs.cons (sz := 1) (total := 1) rfl (by kernel_rfl) (bopens_slice Tryd.underlying31 (by kernel_rfl) (by decide) on) (BOpensFs.one rfl (by kernel_rfl) os)))))))))
end
theorem wf64 {x : Int} (h : (Lit.int .u64 x).wf = true) : 0 ≤ x ∧ x < 18446744073709551616 := by
  simp [Lit.wf, IntKind.min, IntKind.max, IntKind.bits, IntKind.signed] at h
  omega
theorem wf32 {x : Int} (h : (Lit.int .u32 x).wf = true) : 0 ≤ x ∧ x < 4294967296 := by
  simp [Lit.wf, IntKind.min, IntKind.max, IntKind.bits, IntKind.signed] at h
  omega
theorem flatMap_cg {α β : Type} : ∀ {l : List α} {f g : α → List β}, (∀ x ∈ l, f x = g x) → l.flatMap f = l.flatMap g
  | [], _, _, _ => rfl
  | x :: l, f, g, h => by rw [List.flatMap_cons, List.flatMap_cons, h x (by simp), flatMap_cg (fun y hy => h y (by simp [hy]))]
theorem nat_of {x m : Int} (h : 0 ≤ x ∧ x < m) : ∃ n : Nat, x = n ∧ (n : Int) < m := ⟨x.toNat, by omega, by omega⟩
/-- An event that came in. -/
theorem REv.er {w : World} {cs : List Value} {x} (h : REv w cs x) : ∃ e : Er, cs = erC e ∧ EvR w e.x e.da e.dn e.dc e.na e.nn e.nc := by
  obtain ⟨k, p, ⟨ce, cr⟩, ⟨ne, nr⟩, me, ⟨mf, mq, mt, ms, md, mp⟩, ⟨vn, ⟨ve, vr⟩, vm⟩, ns, st⟩ := x
  obtain ⟨_, _, hc, ⟨rfl, -⟩, _, _, rfl, ⟨rfl, -⟩, _, _, rfl, ⟨_, _, rfl, ⟨rfl, f1⟩, rfl, -⟩, _, _, rfl, ⟨_, _, rfl, ⟨rfl, f2⟩, rfl, -⟩, _, _, rfl, ⟨rfl, f3⟩, _, _, rfl, hm, _, _, rfl, hv, _, _, rfl, ⟨na, nn, nc, rfl, hn, hnn⟩, rfl, hst⟩ := h
  obtain ⟨_, _, rfl, ⟨rfl, -⟩, _, _, rfl, ⟨rfl, f4⟩, _, _, rfl, ⟨rfl, f5⟩, _, _, rfl, ⟨rfl, -⟩, _, _, rfl, ⟨da, dn, dc, rfl, hd, hdn⟩, rfl, hmp⟩ := hm
  obtain ⟨_, _, rfl, ⟨rfl, f6⟩, _, _, rfl, ⟨_, _, rfl, ⟨rfl, f7⟩, rfl, -⟩, rfl, f8⟩ := hv
  obtain ⟨ce, rfl, g1⟩ := nat_of (wf64 f1)
  obtain ⟨ne, rfl, g2⟩ := nat_of (wf64 f2)
  obtain ⟨me, rfl, g3⟩ := nat_of (wf64 f3)
  obtain ⟨mq, rfl, g4⟩ := nat_of (wf32 f4)
  obtain ⟨mt, rfl, g5⟩ := nat_of (wf64 f5)
  obtain ⟨vn, rfl, g6⟩ := nat_of (wf64 f6)
  obtain ⟨ve, rfl, g7⟩ := nat_of (wf64 f7)
  obtain ⟨vm, rfl, g8⟩ := nat_of (wf64 f8)
  have hdr := hd.ints
  have hdw := hd.intsWf
  have hnr := hn.flat (fun y => [Value.int .i64 y.1, Value.int .u32 y.2]) (fun _ => rfl) (by decide) (fun w cs y hy => by obtain ⟨_, _, rfl, ⟨rfl, -⟩, rfl, -⟩ := hy; rfl)
  have hnw := hn.all (Q := fun y => 0 ≤ y.2 ∧ y.2 < 4294967296) (fun cs y hy => by obtain ⟨_, _, rfl, ⟨rfl, -⟩, rfl, h⟩ := hy; exact wf32 h)
  subst hc
  refine ⟨⟨⟨k, p, ⟨ce, cr⟩, ⟨ne, nr⟩, me, ⟨mf, mq, mt, ms, md.map Int.toNat, mp.data.toList⟩, vn, ⟨ve, vr⟩, vm, ns.map (fun y => ⟨y.1, y.2.toNat⟩), st.data.toList⟩, da, dn, dc, na, nn, nc⟩, ?_, ⟨⟨⟨?_, ?_, ?_⟩, ⟨?_, ?_, ?_⟩, ⟨?_, ?_, ?_⟩, ?_⟩, ?_, ?_, hdn, hnn, hmp, hst⟩⟩
  · show _ = (evC _ _ _ _ _ _ _).toList
    simp [evC, mkB_list]
  · show ce < _; omega
  · show ne < _; omega
  · show ve < _; omega
  · show me < _; omega
  · show vn < _; omega
  · show vm < _; omega
  · show mq < _; omega
  · show mt < _; omega
  · intro d hd'
    obtain ⟨z, hz, rfl⟩ := List.mem_map.1 hd'
    have := wf32 (hdw z hz)
    omega
  · intro d hd'
    obtain ⟨z, hz, rfl⟩ := List.mem_map.1 hd'
    have := hnw z hz
    show z.2.toNat < _
    omega
  · show Rd w 1 da dn dc ((md.map Int.toNat).map _)
    rw [List.map_map, show md.map ((fun d : Nat => Value.int .u32 (d : Int)) ∘ Int.toNat) = md.map (Value.int .u32) from List.map_congr_left (fun z hz => by
      have := wf32 (hdw z hz)
      show Value.int .u32 ((z.toNat : Nat) : Int) = _
      rw [show ((z.toNat : Nat) : Int) = z from by omega])]
    exact hdr
  · show Rd w 2 na nn nc ((ns.map _).flatMap nmC)
    rw [List.flatMap_map, show ns.flatMap (fun a => nmC ⟨a.1, a.2.toNat⟩) = ns.flatMap (fun y => [Value.int .i64 y.1, Value.int .u32 y.2]) from flatMap_cg (fun z hz => by
      have := hnw z hz
      show [Value.int .i64 z.1, Value.int .u32 ((z.2.toNat : Nat) : Int)] = _
      rw [show ((z.2.toNat : Nat) : Int) = z.2 from by omega])]
    exact hnr
end Go.Proofs.YtpkknhhohbobaaaDoor
