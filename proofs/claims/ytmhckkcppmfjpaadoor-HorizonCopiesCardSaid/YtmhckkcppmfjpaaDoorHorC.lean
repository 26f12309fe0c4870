/- the horizon: walks of All, Safe, New -/
import Derived.Test.YtmhckkcppmfjpaaDoorHorB
namespace Go.Proofs.YtmhckkcppmfjpaaDoor
open Go.RowKit Go.Sort

theorem memN_at {x k : Nat} (h : k < (memN x).length) : (memN x)[k] < 64 := memN_lt x _ (List.getElem_mem h)
theorem memI_at {x k : Nat} (h : k < (memI x).length) : (memI x)[k] = (((memN x)[k]'(by rw [memI, List.length_map] at h; exact h) : Nat) : Int) := by simp [memI]
theorem minL_take (f : Nat → Nat) (a : Nat) (l : List Nat) (k : Nat) (h : k < l.length) : minL f a (l.take (k + 1)) = min (minL f a (l.take k)) (f l[k]) := by
  rw [List.take_succ_eq_append_getElem h, minL_snoc]
section
variable {B : Nat} {w : World} {O : Nat → Prop} {b : Nat} {s : HS} {vs : Nat → Value}
set_option maxHeartbeats 1600000 in
set_option maxRecDepth 100000 in
theorem all_any (hs : s.Ok) (h : HorAt B w O b s vs) (hT : Tab w) :
    Calls Tryd.prog 9 #[.pointer (some ⟨b, 0, none⟩)] w fun e w' => e = .returned (.int .u64 s.all) ∧ Below w.heap.size w w' := by
  have c0 := h.c0
  have c1 := h.c1
  have HL := Lib.hid (list_any s.oth w hs.oth hT)
  have HA := Lib.hid (show s.all = minL (fun p => (s.l p).heard) s.clock (memN s.oth) from rfl)
  have hc64 := cardN_le s.oth
  have hmlen := memN_len s.oth
  generalize hx : s.oth = x at *
  generalize hcl : s.clock = cl at *
  clear hx hcl
  go_enter Tryd.func9, Tryd.ntmps9
  go_wp2_with fail
  refine HL.out.mono ?_
  rintro e w2 ⟨v, rfl, hown, hb2⟩
  obtain ⟨ma, mc, rfl, hrm⟩ := Rd.own hown
  have hln := hrm.intLen
  have h2 := h.below hb2
  clear hown c0 c1 h
  go_wp2
  go_loop [3, 5, 16] (fun low _ i => ∃ k z : Nat, k ≤ cardN x ∧ low = .int .u64 z ∧ i = .int .i64 k ∧ Hid (z = minL (fun p => (s.l p).heard) cl ((memN x).take k))) (fun _ _ i => cardN x - (intOf i).toNat)
  case atStart => exact ⟨0, cl, Nat.zero_le _, rfl, rfl, rfl⟩
  case round =>
    (obtain ⟨k, z, hk, rfl, rfl, hz⟩ := hrel; by_cases hlt : k < cardN x; (focus (have hkl : k < (memI x).length := (by rw [hln]; exact hlt); have hkn : k < (memN x).length := (by rw [hmlen]; exact hlt); have hkI : (k : Int) < cardN x := (by omega); obtain ⟨bl, off, rfl, _⟩ := hrm.addr (by omega); have hc := hrm.at (j := k) (u := .int .i64 ((memN x)[k] : Nat)) (by rw [List.getElem?_map, List.getElem?_eq_getElem hkl, memI_at]; rfl); have hp := memN_at hkn; have hS := minL_take (fun p => (s.l p).heard) cl (memN x) k hkn; rw [← hz.out] at hS; have hSx := Lib.hid hS; clear hS hz; generalize (memN x)[k] = p at *; have hpI : (p : Int) < 64 := (by omega); have hd := (h2.mrk p hp).1; generalize (s.l p).heard = r at *; by_cases hr : r < z; (focus (have hrI : (r : Int) < z := (by omega); have hm := Lib.hid (hSx.out.trans (Nat.min_eq_right (by omega))); go_wp2; go_round; (case rel => exact ⟨k + 1, r, by omega, rfl, by go_num, hm.out.symm⟩); (case measure => (simp [intOf]; omega)))); (focus (have hrI : ¬ (r : Int) < z := (by omega); have hm := Lib.hid (hSx.out.trans (Nat.min_eq_left (by omega))); go_wp2; go_round; (case rel => exact ⟨k + 1, z, by omega, rfl, by go_num, hm.out.symm⟩); (case measure => (simp [intOf]; omega)))))); (focus (obtain rfl : k = cardN x := (by omega); have hz2 := Lib.hid (hz.out.trans (by rw [← hmlen, List.take_length])); go_wp2; go_ret; exact ⟨ret_int (by rw [hz2.out, HA.out]), hb2⟩)))
set_option maxHeartbeats 1600000 in
set_option maxRecDepth 100000 in
theorem safe_any (hs : s.Ok) (h : HorAt B w O b s vs) (hT : Tab w) :
    Calls Tryd.prog 10 #[.pointer (some ⟨b, 0, none⟩)] w fun e w' => e = .returned (.int .u64 s.safe) ∧ Below w.heap.size w w' := by
  have HL := Lib.hid (fun W hT => list_any s.oth W hs.oth hT)
  have HA := Lib.hid (show s.safe = minL (fun p => (s.l p).reached) s.all (memN s.oth) from rfl)
  have HAl := Lib.hid (all_any hs h hT)
  have hc64 := cardN_le s.oth
  have hmlen := memN_len s.oth
  go_enter Tryd.func10, Tryd.ntmps10
  go_wp2_with fail
  refine HAl.out.mono ?_
  rintro e w1 ⟨rfl, hb1⟩
  have h1 := h.below hb1
  have hT1 := hT.below hb1 hT.1
  have c1 := h1.c1
  generalize s.all = cl at *
  generalize hx : s.oth = x at *
  clear h hT HAl hx
  go_wp2_with fail
  refine (HL.out _ hT1).mono ?_
  rintro e w2 ⟨v, rfl, hown, hb2⟩
  obtain ⟨ma, mc, rfl, hrm⟩ := Rd.own hown
  have hln := hrm.intLen
  have h2 := h1.below hb2
  replace hb2 := belS hb1 hb2
  clear hown c1 h1 hb1
  go_wp2
  go_loop [3, 5, 14] (fun low _ i => ∃ k z : Nat, k ≤ cardN x ∧ low = .int .u64 z ∧ i = .int .i64 k ∧ Hid (z = minL (fun p => (s.l p).reached) cl ((memN x).take k))) (fun _ _ i => cardN x - (intOf i).toNat)
  case atStart => exact ⟨0, cl, Nat.zero_le _, rfl, rfl, rfl⟩
  case round =>
    (obtain ⟨k, z, hk, rfl, rfl, hz⟩ := hrel; by_cases hlt : k < cardN x; (focus (have hkl : k < (memI x).length := (by rw [hln]; exact hlt); have hkn : k < (memN x).length := (by rw [hmlen]; exact hlt); have hkI : (k : Int) < cardN x := (by omega); obtain ⟨bl, off, rfl, _⟩ := hrm.addr (by omega); have hc := hrm.at (j := k) (u := .int .i64 ((memN x)[k] : Nat)) (by rw [List.getElem?_map, List.getElem?_eq_getElem hkl, memI_at]; rfl); have hp := memN_at hkn; have hS := minL_take (fun p => (s.l p).reached) cl (memN x) k hkn; rw [← hz.out] at hS; have hSx := Lib.hid hS; clear hS hz; generalize (memN x)[k] = p at *; have hpI : (p : Int) < 64 := (by omega); have hd := (h2.mrk p hp).2.1; generalize (s.l p).reached = r at *; by_cases hr : r < z; (focus (have hrI : (r : Int) < z := (by omega); have hm := Lib.hid (hSx.out.trans (Nat.min_eq_right (by omega))); go_wp2; go_round; (case rel => exact ⟨k + 1, r, by omega, rfl, by go_num, hm.out.symm⟩); (case measure => (simp [intOf]; omega)))); (focus (have hrI : ¬ (r : Int) < z := (by omega); have hm := Lib.hid (hSx.out.trans (Nat.min_eq_left (by omega))); go_wp2; go_round; (case rel => exact ⟨k + 1, z, by omega, rfl, by go_num, hm.out.symm⟩); (case measure => (simp [intOf]; omega)))))); (focus (obtain rfl : k = cardN x := (by omega); have hz2 := Lib.hid (hz.out.trans (by rw [← hmlen, List.take_length])); go_wp2; go_ret; exact ⟨ret_int (by rw [hz2.out, HA.out]), hb2⟩)))
end
def HS.nw (me : Int) (x : Nat) : HS := ⟨0, butN x (bitN me), fun _ => ⟨0, 0, 0, []⟩⟩
def nilV : Nat → Value := fun _ => .slice none 0 0
theorem Tryd.horB (oth : Nat) : Tryd.prog.built 49 [(1, .int .u64 oth)] = some (horC ⟨0, oth, fun _ => ⟨0, 0, 0, []⟩⟩ nilV) := by kernel_rfl
theorem HS.nw_ok (me : Int) {x : Nat} (hx : x < 18446744073709551616) : (HS.nw me x).Ok :=
  ⟨Nat.zero_lt_succ _, but_lt _ _ hx, fun _ => Nat.zero_lt_succ _, fun _ => Nat.zero_lt_succ _, fun _ => Nat.zero_lt_succ _, (fun _ y hy => by cases hy), (fun _ y hy => by cases hy)⟩
set_option maxHeartbeats 800000 in
set_option maxRecDepth 100000 in
theorem hor_new (me : Int) (x : Nat) (hx : x < 18446744073709551616) (w : World) :
    Calls Tryd.prog 8 #[.int .i64 me, .int .u64 x] w fun e w' => ∃ b, e = .returned (.pointer (some ⟨b, 0, none⟩)) ∧ w.heap.size ≤ b ∧ HorAt w.heap.size w' (fun g => g = b) b (HS.nw me x) nilV ∧ Below w.heap.size w w' := by
  have HL := fun w : World => less_any x 1 1 (some ⟨w.heap.size, 0, none⟩) [me] (w.alloc (.cells #[.int .i64 me] 3)) hx (by decide) (Rd.one rfl)
  rw [show withN 0 [me] = bitN me from by simp [withN]] at HL
  have HL := Lib.hid HL
  have HN := Lib.hid (show HS.nw me x = ⟨0, butN x (bitN me), fun _ => ⟨0, 0, 0, []⟩⟩ from rfl)
  go_enter Tryd.func8, Tryd.ntmps8
  go_wp2_with (first
    | (go_at_call 13; refine (HL.out _).mono ?_; rintro e w' ⟨rfl, rfl⟩)
    | (refine wpList_blk_build (cs := horC ⟨0, butN x (bitN me), fun _ => ⟨0, 0, 0, []⟩⟩ nilV) rfl #[(1, .tmp 8)] rfl (by rw [List.map_toArray]; exact Tryd.horB (butN x (bitN me))) ?_)
    | (refine wpList_blk_box rfl (.tmp 9) rfl rfl (w.heap.size + 1) (by simp) ?_))
  go_ret
  have hB := BlkAt.new (w.alloc (.cells #[.int .i64 me] 3)) 49 (horC ⟨0, butN x (bitN me), fun _ => ⟨0, 0, 0, []⟩⟩ nilV)
  rw [show (w.alloc (.cells #[.int .i64 me] 3)).heap.size = w.heap.size + 1 from by simp] at hB
  refine ⟨_, rfl, Nat.le_succ _, ?_, ((Below.refl _ _).alloc (Nat.le_refl _) _).alloc (by simp) _⟩
  rw [HN.out]
  exact ⟨hB, fun i _ => World.ownsRow_nil _ _ _ _, (fun i j _ _ _ g hg => by cases hg), (fun i _ g hg => by cases hg), (fun i _ hg => by cases hg), rfl, (fun g hg => by rw [hg]; exact Nat.le_succ _), (fun g hg => by rw [hg]; exact hB.lt)⟩
end Go.Proofs.YtmhckkcppmfjpaaDoor
