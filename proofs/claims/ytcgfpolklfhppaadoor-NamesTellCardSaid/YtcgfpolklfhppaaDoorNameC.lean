/- walks of Stay, Joins -/
import Derived.Test.YtcgfpolklfhppaaDoorNameB
import Derived.Laws.EntriesVeiled
namespace Go.Proofs.YtcgfpolklfhppaaDoor
open Go.RowKit Go.Sort

def minI (x : Nat) : Int := if x = 0 then -1 else (Lib.ctz 64 x : Int)
theorem min_any (x : Nat) (hx : x < 18446744073709551616) (w : World) (hT : Tab w) : Calls Tryd.prog 31 #[.int .u64 x] w fun e w' => e = .returned (.int .i64 (minI x)) ∧ w = w' := by
  by_cases h : x = 0
  · subst h; exact min_none w
  · rw [minI, if_neg h]; exact min_some x hx h w hT
def dirQ (n : Nat) (x : It) : Bool := x.hold n && x.direct
def stayN (n m : Nat) (l : List It) : Nat := if thoseN m l (dirQ n) = 0 then bitN (minI (thoseN m l (It.hold n))) else thoseN m l (dirQ n)
theorem thoseN_lt (m : Nat) (l : List It) (q : It → Bool) : thoseN m l q < 18446744073709551616 := thoseK_lt _ _ _ _
theorem stayN_lt (n m : Nat) (l : List It) : stayN n m l < 18446744073709551616 := by
  unfold stayN
  split
  · exact bitN_lt _
  · exact thoseN_lt _ _ _
set_option maxHeartbeats 1600000 in
set_option maxRecDepth 100000 in
theorem stay_any (n m : Nat) (hm : m < 18446744073709551616) (a : Option Addr) (k c : Nat) (l : List It) (hw : ∀ x ∈ l, x.Wf) (w : World) (hr : RdI w a k c l) (hT : Tab w) :
    Calls Tryd.prog 11 #[.int .u64 n, .int .u64 m, .slice a k c] w fun e w' => e = .returned (.int .u64 (stayN n m l)) ∧ Below w.heap.size w w' := by
  have hpos := hT.1
  have hb2 : Below w.heap.size w ((w.alloc (.cells #[.int .u64 n] 22)).alloc (.cells #[.func (Fn.func 27) #[] #[.pointer (some ⟨w.heap.size, 0, none⟩)]] 65)) := ((Below.refl _ _).alloc (Nat.le_refl _) _).alloc (by simp) _
  have hB1 : BlkAt ((w.alloc (.cells #[.int .u64 n] 22)).alloc (.cells #[.func (Fn.func 27) #[] #[.pointer (some ⟨w.heap.size, 0, none⟩)]] 65)) w.heap.size 22 #[.int .u64 n] := BlkAt.alloc (BlkAt.new w _ _) _
  have hF1 : BlkAt ((w.alloc (.cells #[.int .u64 n] 22)).alloc (.cells #[.func (Fn.func 27) #[] #[.pointer (some ⟨w.heap.size, 0, none⟩)]] 65)) (w.heap.size + 1) 65 #[.func (Fn.func 27) #[] #[.pointer (some ⟨w.heap.size, 0, none⟩)]] := by simpa using BlkAt.new (w.alloc (.cells #[.int .u64 n] 22)) 65 #[.func (Fn.func 27) #[] #[.pointer (some ⟨w.heap.size, 0, none⟩)]]
  have hT2 := hT.below hb2 hpos
  have hr2 : RdI ((w.alloc (.cells #[.int .u64 n] 22)).alloc (.cells #[.func (Fn.func 27) #[] #[.pointer (some ⟨w.heap.size, 0, none⟩)]] 65)) a k c l := Rd.below hr hb2 (Nat.le_refl _)
  go_enter Tryd.func11, Tryd.ntmps11
  go_wp2_with fail
  generalize (w.alloc _).alloc _ = w2 at *
  refine (those_d m hm a k c l hw (w.heap.size + 1) (dirQ n) w2 hr2 hT2 (fun x hx W h => direct_any n x (hw x hx) w.heap.size (w.heap.size + 1) W (hB1.below h hB1.lt) _ (hF1.below h hF1.lt))).mono ?_
  rintro e w3 ⟨rfl, hb3⟩
  have hB3 := hB1.below hb3 hB1.lt
  have hF3 := hF1.below hb3 hF1.lt
  have hT3 := hT2.below hb3 hT2.1
  have hr3 : RdI w3 a k c l := Rd.below hr2 hb3 (Nat.le_refl _)
  have hbw := belS hb2 hb3
  have f0 : w3.cell? ⟨w.heap.size + 1, 0, none⟩ = some (.func (Fn.func 27) #[] #[.pointer (some ⟨w.heap.size, 0, none⟩)]) := hF3.cell rfl
  have HS := Lib.hid (show stayN n m l = if thoseN m l (dirQ n) = 0 then bitN (minI (thoseN m l (It.hold n))) else thoseN m l (dirQ n) from rfl)
  have HMin := Lib.hid (fun W hT => min_any (thoseN m l (It.hold n)) (thoseN_lt _ _ _) W hT)
  have HTh := Lib.hid (those_h m hm a k c l hw w.heap.size (It.hold n) w3 hr3 hT3 (fun x hx W h => holds_any n x (hw x hx) w.heap.size W (hB3.below h hB3.lt)))
  clear hb2 hB1 hF1 hT2 hr2 hb3 hr hT hF3 hr3
  generalize thoseN m l (dirQ n) = d at *
  generalize thoseN m l (It.hold n) = h at *
  by_cases hd : d = 0
  · subst hd
    have HZ := Lib.hid (HS.out.trans (if_pos rfl))
    go_wp2_with fail
    refine HTh.out.mono ?_
    rintro e w4 ⟨rfl, hb4⟩
    have hT4 := hT3.below hb4 hT3.1
    have hb5 := belS hbw hb4
    go_wp2_with fail
    refine (HMin.out _ hT4).mono ?_
    rintro e w' ⟨rfl, rfl⟩
    generalize minI h = z at *
    go_wp2_with fail
    refine (of_any 1 1 _ [z] _ (by decide) (Rd.one rfl)).mono ?_
    rintro e w' ⟨rfl, rfl⟩
    go_wp2
    go_ret
    exact ⟨ret_int (by rw [HZ.out]; simp [withN]), hb5.alloc hb5.size _⟩
  · have HZ := Lib.hid (HS.out.trans (if_neg hd))
    have hdI : ((d : Int) == 0) = false := by simpa using hd
    go_wp2
    go_ret
    exact ⟨ret_int (by rw [HZ.out]), hbw⟩
set_option maxHeartbeats 800000 in
theorem joins_any (n m : Nat) (hm : m < 18446744073709551616) (a : Option Addr) (k c : Nat) (l : List It) (hw : ∀ x ∈ l, x.Wf) (w : World) (hr : RdI w a k c l) (hT : Tab w) :
    Calls Tryd.prog 12 #[.int .u64 n, .int .u64 m, .slice a k c] w fun e w' => e = .returned (.int .u64 (butN m (stayN n m l))) ∧ Below w.heap.size w w' := by
  have HB := Lib.hid (fun W => but_any m (stayN n m l) hm (stayN_lt _ _ _) W)
  have HS := Lib.hid (stay_any n m hm a k c l hw w hr hT)
  generalize stayN n m l = s at *
  go_enter Tryd.func12, Tryd.ntmps12
  go_wp2_with fail
  refine HS.out.mono ?_
  rintro e w4 ⟨rfl, hb4⟩
  go_wp2_with fail
  refine (HB.out _).mono ?_
  rintro e w' ⟨rfl, rfl⟩
  go_wp2
  go_ret
  exact ⟨rfl, hb4⟩
end Go.Proofs.YtcgfpolklfhppaaDoor
