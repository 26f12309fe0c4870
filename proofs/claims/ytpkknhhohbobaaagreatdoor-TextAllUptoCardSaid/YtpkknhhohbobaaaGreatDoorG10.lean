/- text: an event as an argument; text: a row of events as an argument -/
import Derived.Test.YtpkknhhohbobaaaGreatDoorG9
import Derived.Test.YtpkknhhohbobaaaGreatDoorG3
namespace Go.Proofs.YtpkknhhohbobaaaGreatDoor
set_option linter.unusedSimpArgs false
set_option linter.unusedVariables false
open Go.RowKit
def RCf := RPair (RInt .u64) (RInt .i64)
def RNm := RPair (RInt .i64) (RInt .u32)
def RMs := RPair (RInt .i64) (RPair (RInt .u32) (RPair (RInt .u64) (RPair (RInt .i64) (RPair (RSlb (RInt .u32) 1) RStrb))))
def RVw := RPair (RInt .u64) (RPair RCf (RInt .u64))
def REv := RPair (RInt .i64) (RPair (RInt .i64) (RPair RCf (RPair RCf (RPair (RInt .u64) (RPair RMs (RPair RVw (RPair (RSlb RNm 2) RStrb)))))))
section
variable {H : Type} {enc : TypeId × Value → H} {W : World}
theorem bopens_event : BOpens enc Tryz.prog W 34 REv :=
  have oi := BOpens.of (opens_int (enc := enc) (w := W) Tryz.underlying3)
  have o64 := BOpens.of (opens_int (enc := enc) (w := W) Tryz.underlying23)
  have o32 := BOpens.of (opens_int (enc := enc) (w := W) Tryz.underlying26)
  have os := bopens_str (enc := enc) (w := W) Tryz.underlying9
  have oc : BOpens enc Tryz.prog W 25 RCf := BOpens.of (opens_struct Tryz.underlying25 (by kernel_rfl) (OpensFs.cons (sz := 1) (total := 1) rfl (by kernel_rfl) (opens_int Tryz.underlying23) (OpensFs.one rfl (by kernel_rfl) (opens_int Tryz.underlying3))))
  have on : BOpens enc Tryz.prog W 96 RNm := BOpens.of (opens_struct Tryz.underlying96 (by kernel_rfl) (OpensFs.cons (sz := 1) (total := 1) rfl (by kernel_rfl) (opens_int Tryz.underlying3) (OpensFs.one rfl (by kernel_rfl) (opens_int Tryz.underlying26))))
  have om : BOpens enc Tryz.prog W 29 RMs := bopens_struct Tryz.underlying29 (by kernel_rfl) (BOpensFs.cons (sz := 1) (total := 5) rfl (by kernel_rfl) oi (BOpensFs.cons (sz := 1) (total := 4) rfl (by kernel_rfl) o32 (BOpensFs.cons (sz := 1) (total := 3) rfl (by kernel_rfl) o64 (BOpensFs.cons (sz := 1) (total := 2) rfl (by kernel_rfl) oi (BOpensFs.cons (sz := 1) (total := 1) rfl (by kernel_rfl) (bopens_slice Tryz.underlying27 (by kernel_rfl) (by decide) o32) (BOpensFs.one rfl (by kernel_rfl) os))))))
  have ov : BOpens enc Tryz.prog W 31 RVw := bopens_struct Tryz.underlying31 (by kernel_rfl) (BOpensFs.cons (sz := 1) (total := 3) rfl (by kernel_rfl) o64 (BOpensFs.cons (sz := 2) (total := 1) rfl (by kernel_rfl) oc (BOpensFs.one rfl (by kernel_rfl) o64)))
  bopens_struct Tryz.underlying34 (by kernel_rfl) (BOpensFs.cons (sz := 1) (total := 18) rfl (by kernel_rfl) oi (BOpensFs.cons (sz := 1) (total := 17) rfl (by kernel_rfl) oi (BOpensFs.cons (sz := 2) (total := 15) rfl (by kernel_rfl) oc (BOpensFs.cons (sz := 2) (total := 13) rfl (by kernel_rfl) oc (BOpensFs.cons (sz := 1) (total := 12) rfl (by kernel_rfl) o64 (BOpensFs.cons (sz := 6) (total := 6) rfl (by kernel_rfl) om (BOpensFs.cons (sz := 4) (total := 2) rfl (by kernel_rfl) ov (BOpensFs.cons (sz := 1) (total := 1) rfl (by kernel_rfl) (bopens_slice Tryz.underlying32 (by kernel_rfl) (by decide) on) (BOpensFs.one rfl (by kernel_rfl) os)))))))))
end
theorem wf64 {x : Int} (h : (Lit.int .u64 x).wf = true) : 0 ≤ x ∧ x < 18446744073709551616 := by
  simp [Lit.wf, IntKind.min, IntKind.max, IntKind.bits, IntKind.signed] at h
  omega
theorem wf32 {x : Int} (h : (Lit.int .u32 x).wf = true) : 0 ≤ x ∧ x < 4294967296 := by
  simp [Lit.wf, IntKind.min, IntKind.max, IntKind.bits, IntKind.signed] at h
  omega
theorem flatMap_cg {α β : Type} : ∀ {l : List α} {f g : α → List β}, (∀ x ∈ l, f x = g x) → l.flatMap f = l.flatMap g
  | [], _, _, _ => rfl
  | x :: l, f, g, h => by rw [List.flatMap_cons, List.flatMap_cons, h x (by simp), flatMap_cg (fun y hy => h y (by simp [hy]))]
theorem nat_of {x m : Int} (h : 0 ≤ x ∧ x < m) : ∃ n : Nat, x = n ∧ (n : Int) < m := ⟨x.toNat, by omega, by omega⟩
/-- An event that came in. -/
theorem REv.er {w : World} {cs : List Value} {x} (h : REv w cs x) : ∃ e : Er, cs = erC e ∧ EvR w e.x e.da e.dn e.dc e.na e.nn e.nc := by
  obtain ⟨k, p, ⟨ce, cr⟩, ⟨ne, nr⟩, me, ⟨mf, mq, mt, ms, md, mp⟩, ⟨vn, ⟨ve, vr⟩, vm⟩, ns, st⟩ := x
  obtain ⟨_, _, hc, ⟨rfl, -⟩, _, _, rfl, ⟨rfl, -⟩, _, _, rfl, ⟨_, _, rfl, ⟨rfl, f1⟩, rfl, -⟩, _, _, rfl, ⟨_, _, rfl, ⟨rfl, f2⟩, rfl, -⟩, _, _, rfl, ⟨rfl, f3⟩, _, _, rfl, hm, _, _, rfl, hv, _, _, rfl, ⟨na, nn, nc, rfl, hn, hnn⟩, rfl, hst⟩ := h
  obtain ⟨_, _, rfl, ⟨rfl, -⟩, _, _, rfl, ⟨rfl, f4⟩, _, _, rfl, ⟨rfl, f5⟩, _, _, rfl, ⟨rfl, -⟩, _, _, rfl, ⟨da, dn, dc, rfl, hd, hdn⟩, rfl, hmp⟩ := hm
  obtain ⟨_, _, rfl, ⟨rfl, f6⟩, _, _, rfl, ⟨_, _, rfl, ⟨rfl, f7⟩, rfl, -⟩, rfl, f8⟩ := hv
  obtain ⟨ce, rfl, g1⟩ := nat_of (wf64 f1)
  obtain ⟨ne, rfl, g2⟩ := nat_of (wf64 f2)
  obtain ⟨me, rfl, g3⟩ := nat_of (wf64 f3)
  obtain ⟨mq, rfl, g4⟩ := nat_of (wf32 f4)
  obtain ⟨mt, rfl, g5⟩ := nat_of (wf64 f5)
  obtain ⟨vn, rfl, g6⟩ := nat_of (wf64 f6)
  obtain ⟨ve, rfl, g7⟩ := nat_of (wf64 f7)
  obtain ⟨vm, rfl, g8⟩ := nat_of (wf64 f8)
  have hdr := hd.ints
  have hdw := hd.intsWf
  have hnr := hn.flat (fun y => [Value.int .i64 y.1, Value.int .u32 y.2]) (fun _ => rfl) (by decide) (fun w cs y hy => by obtain ⟨_, _, rfl, ⟨rfl, -⟩, rfl, -⟩ := hy; rfl)
  have hnw := hn.all (Q := fun y => 0 ≤ y.2 ∧ y.2 < 4294967296) (fun cs y hy => by obtain ⟨_, _, rfl, ⟨rfl, -⟩, rfl, h⟩ := hy; exact wf32 h)
  subst hc
  refine ⟨⟨⟨k, p, ⟨ce, cr⟩, ⟨ne, nr⟩, me, ⟨mf, mq, mt, ms, md.map Int.toNat, mp.data.toList⟩, vn, ⟨ve, vr⟩, vm, ns.map (fun y => ⟨y.1, y.2.toNat⟩), st.data.toList⟩, da, dn, dc, na, nn, nc⟩, ?_, ⟨⟨⟨?_, ?_, ?_⟩, ⟨?_, ?_, ?_⟩, ⟨?_, ?_, ?_⟩, ?_⟩, ?_, ?_, hdn, hnn, hmp, hst⟩⟩
  · show _ = (evC _ _ _ _ _ _ _).toList
    simp [evC, mkB_list]
  · show ce < _; omega
  · show ne < _; omega
  · show ve < _; omega
  · show me < _; omega
  · show vn < _; omega
  · show vm < _; omega
  · show mq < _; omega
  · show mt < _; omega
  · intro d hd'
    obtain ⟨z, hz, rfl⟩ := List.mem_map.1 hd'
    have := wf32 (hdw z hz)
    omega
  · intro d hd'
    obtain ⟨z, hz, rfl⟩ := List.mem_map.1 hd'
    have := hnw z hz
    show z.2.toNat < _
    omega
  · show Rd w 1 da dn dc ((md.map Int.toNat).map _)
    rw [List.map_map, show md.map ((fun d : Nat => Value.int .u32 (d : Int)) ∘ Int.toNat) = md.map (Value.int .u32) from List.map_congr_left (fun z hz => by
      have := wf32 (hdw z hz)
      show Value.int .u32 ((z.toNat : Nat) : Int) = _
      rw [show ((z.toNat : Nat) : Int) = z from by omega])]
    exact hdr
  · show Rd w 2 na nn nc ((ns.map _).flatMap nmC)
    rw [List.flatMap_map, show ns.flatMap (fun a => nmC ⟨a.1, a.2.toNat⟩) = ns.flatMap (fun y => [Value.int .i64 y.1, Value.int .u32 y.2]) from flatMap_cg (fun z hz => by
      have := hnw z hz
      show [Value.int .i64 z.1, Value.int .u32 ((z.2.toNat : Nat) : Int)] = _
      rw [show ((z.2.toNat : Nat) : Int) = z.2 from by omega])]
    exact hnr
end Go.Proofs.YtpkknhhohbobaaaGreatDoor
namespace Go.Proofs.YtpkknhhohbobaaaGreatDoor
set_option linter.unusedSimpArgs false
set_option linter.unusedVariables false
open Go.RowKit
theorem RSl.turn {α β : Type} {R : World → List Value → α → Prop} {S : World → List Value → β → Prop} {sz : Nat} {w : World} {a : Option Addr} {n c : Nat} {l : List α} (h : RSl R sz w a n c l) (hRS : ∀ cs x, R w cs x → ∃ y, S w cs y) : ∃ k, RSl S sz w a n c k := by
  obtain ⟨⟨h1, h2, h3, h4⟩, h5⟩ := h
  rcases h5 with h5 | ⟨b, off, rfl, hb, hc⟩
  · exact ⟨[], ⟨h5.symm, h2, h3, h4⟩, .inl h5⟩
  · have hv : ∀ i (hi : i < l.length), ∃ y : β, ∃ cs, cs.length = sz ∧ (∀ j u, cs[j]? = some u → w.cell? ⟨b, off + i * sz + j, none⟩ = some u) ∧ S w cs y := fun i hi => by
      obtain ⟨cs, g1, g2, g3⟩ := hc i hi
      obtain ⟨y, hy⟩ := hRS _ _ g3
      exact ⟨y, cs, g1, g2, hy⟩
    let f : (i : Nat) → i < l.length → β := fun i hi => Classical.choose (hv i hi)
    have hf : ∀ i hi, ∃ cs, cs.length = sz ∧ (∀ j u, cs[j]? = some u → w.cell? ⟨b, off + i * sz + j, none⟩ = some u) ∧ S w cs (f i hi) := fun i hi => Classical.choose_spec (hv i hi)
    refine ⟨List.ofFn (fun i : Fin l.length => f i.1 i.2), ⟨by simp [h1], h2, h3, h4⟩, .inr ⟨b, off, rfl, hb, fun i hi => ?_⟩⟩
    obtain ⟨cs, g1, g2, g3⟩ := hf i (by simpa using hi)
    exact ⟨cs, g1, g2, by simpa using g3⟩
theorem REv.ers {w : World} {a : Option Addr} {n c : Nat} {l} (h : RSl REv 19 w a n c l) : ∃ k : List Er, Rd w 19 a n c (k.flatMap erC) ∧ ∀ e ∈ k, EvR w e.x e.da e.dn e.dc e.na e.nn e.nc := by
  obtain ⟨k, hk⟩ := RSl.turn (S := fun w cs (e : Er) => cs = erC e ∧ EvR w e.x e.da e.dn e.dc e.na e.nn e.nc) h (fun cs x hx => REv.er hx)
  exact ⟨k, hk.flat erC erC_len (by decide) (fun _ _ _ hx => hx.1), hk.all (Q := fun e => EvR w e.x e.da e.dn e.dc e.na e.nn e.nc) (fun _ _ hx => hx.2)⟩
end Go.Proofs.YtpkknhhohbobaaaGreatDoor
