/- HeardPlays: where it says nothing; its law -/
import Derived.Test.YtpnmhlcbmbpfdaaDoorHeardT
namespace Go.Proofs.YtpnmhlcbmbpfdaaDoor
open Go.RowKit Go.Sort

set_option maxHeartbeats 800000 in
set_option maxRecDepth 100000 in
theorem plays_out (me m tm : Int) (sa : Option Addr) (n c : Nat) (x y : Int) (w : World) (hT : Tab w) (h : 100 < n ∨ tm < 0 ∨ 1073741824 < tm) (hn : n ≤ 9223372036854775807) :
    Calls Tryd.prog 3 #[.int .i64 me, .int .i64 m, .int .i64 tm, .slice sa n c, .agg #[.int .u64 x, .int .i64 y]] w fun e w' => e = .returned (.bool true) ∧ Below w.heap.size w w' := by
  have hb0 : Below w.heap.size w (w.alloc (.cells #[.int .u64 x, .int .i64 y] 25)) := (Below.refl _ _).alloc (Nat.le_refl _) _
  have hT0 := hT.below hb0 hT.1
  by_cases h1 : 100 < n
  · clear h
    go_enter Tryd.func3, Tryd.ntmps3
    go_wp2_with fail
    refine (awake_any _ hT0).mono ?_
    rintro e w1 ⟨rfl, hb1⟩
    go_wp2; go_ret; exact ⟨rfl, belS hb0 hb1⟩
  by_cases h2 : tm < 0
  · clear h
    go_enter Tryd.func3, Tryd.ntmps3
    go_wp2_with fail
    refine (awake_any _ hT0).mono ?_
    rintro e w1 ⟨rfl, hb1⟩
    go_wp2; go_ret; exact ⟨rfl, belS hb0 hb1⟩
  · have h3 : 1073741824 < tm := by omega
    clear h
    go_enter Tryd.func3, Tryd.ntmps3
    go_wp2_with fail
    refine (awake_any _ hT0).mono ?_
    rintro e w1 ⟨rfl, hb1⟩
    go_wp2; go_ret; exact ⟨rfl, belS hb0 hb1⟩
theorem plays_law (me m tm : Int) (sa : Option Addr) (n c : Nat) (x y : Int) (w : World) (hT : Tab w) (_ : (Lit.int .i64 me).wf = true) (_ : (Lit.int .i64 m).wf = true) (_ : (Lit.int .i64 tm).wf = true) (h : ∃ l, RSl RAc 8 w sa n c l) (hx : (Lit.int .u64 x).wf = true) (_ : (Lit.int .i64 y).wf = true) :
    Calls Tryd.prog 3 #[.int .i64 me, .int .i64 m, .int .i64 tm, .slice sa n c, .agg #[.int .u64 x, .int .i64 y]] w fun e w' => e = .returned (.bool true) ∧ Below w.heap.size w w' := by
  obtain ⟨l, hl⟩ := h
  obtain ⟨l', hr, hln, hwf⟩ := hl.ac
  have hmx := hr.le_max
  unfold maxLen at hmx
  have g := wf_u64_bounds hx
  obtain ⟨ce, rfl⟩ : ∃ ce : Nat, x = ce := ⟨x.toNat, by omega⟩
  by_cases ho : 100 < n ∨ tm < 0 ∨ 1073741824 < tm
  · exact plays_out me m tm sa n c ce y w hT ho hmx
  · exact plays_main me m tm sa n c l' ce y w hT hr hln hwf (by omega) (by omega) (by omega)
end Go.Proofs.YtpnmhlcbmbpfdaaDoor
