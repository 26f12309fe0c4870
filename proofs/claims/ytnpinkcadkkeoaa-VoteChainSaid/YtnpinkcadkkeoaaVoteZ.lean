/- the walk of VoteChain -/
import Derived.Test.YtnpinkcadkkeoaaVoteYa
import Derived.Deep.RegionHeld3
namespace Go.Proofs.Ytnpinkcadkkeoaa
open Go.RowKit Go.Sort

structure Rnd where
  m : Nat
  wr : Nat
  fo : Nat
def rdF (x : Rnd) : List Value := [.int .u64 x.m, .int .u64 x.wr, .int .u64 x.fo]
def Rnd.Wf (x : Rnd) : Prop := x.m < 18446744073709551616 ∧ x.wr < 18446744073709551616 ∧ x.fo < 18446744073709551616
def RdN (w : World) (a : Option Addr) (n c : Nat) (l : List Rnd) : Prop := Rd w 3 a n c (l.flatMap rdF)
theorem RdN.len {w : World} {a : Option Addr} {n c : Nat} {l : List Rnd} (h : RdN w a n c l) : l.length = n := by
  have := Rd.length_eq h
  rw [flatMap_len (f := rdF) (sz := 3) (fun _ => rfl)] at this
  omega
theorem RdN.at {w : World} {b off n c : Nat} {l : List Rnd} (h : RdN w (some ⟨b, off, none⟩) n c l) (k : Nat) (hk : k < l.length) :
    w.cell? ⟨b, off + k * 3, none⟩ = some (.int .u64 l[k].m) ∧ w.cell? ⟨b, off + k * 3 + 1, none⟩ = some (.int .u64 l[k].wr) ∧ w.cell? ⟨b, off + k * 3 + 2, none⟩ = some (.int .u64 l[k].fo) := by
  have hj : ∀ j v, (rdF l[k])[j]? = some v → j < 3 → w.cell? ⟨b, off + k * 3 + j, none⟩ = some v := fun j v hv h8 => by
    have h0 := flatMap_get (f := rdF) (sz := 3) (fun _ => rfl) l k j h8
    rw [List.getElem?_eq_getElem hk] at h0
    rw [Nat.add_assoc]; exact Rd.at h (h0.trans hv)
  exact ⟨hj 0 _ rfl (by decide), hj 1 _ rfl (by decide), hj 2 _ rfl (by decide)⟩
def ra0 : RA := ⟨⟨v00, []⟩, none, 0, 0⟩
def raz : RA := ⟨⟨.zero, []⟩, none, 0, 0⟩
theorem allN5 : allN 5 = 31 := by decide
theorem and31 (x : Nat) : x &&& 31 < 32 := Nat.lt_of_le_of_lt Nat.and_le_right (by decide)
theorem RecsAt.kp {w w' : World} {b c : Nat} {S : Nat → RA} (h : RecsAt w b S) (k : Below w.heap.size w w') : RecsAt w' b S := h.below k
theorem first5 (w : World) : Calls Try.prog 10 #[.int .i64 5] w fun e w' => e = .returned (.agg #[.int .u64 0, .int .u64 0, .int .i64 0, .int .u64 31, .slice none 0 0]) ∧ Below w.heap.size w w' := first_any 5 w
theorem all5 (w : World) : Calls Try.prog 20 #[.int .i64 5] w fun e w' => e = .returned (.int .u64 31) ∧ w = w' := allS_any 5 w
def toldC (m : Nat) (S : Nat → RA) (k : Nat) : List Value := ((List.range k).filter fun p => m.testBit p).flatMap fun p => raC (S p)
theorem toldC_succ (m : Nat) (S : Nat → RA) (k : Nat) : toldC m S (k + 1) = toldC m S k ++ (if m.testBit k = true then raC (S k) else []) := by
  unfold toldC
  rw [List.range_succ, List.filter_append, List.flatMap_append]
  congr 1
  by_cases h : m.testBit k = true <;> simp [h]
theorem toldL_len (m : Nat) (R : Nat → Rc) (k : Nat) (hk : k ≤ 5) : (toldL m R k).length ≤ 5 := by
  unfold toldL
  rw [List.length_map]
  refine Nat.le_trans (List.length_filter_le ..) ?_
  simpa using hk
theorem hasB5 (m q : Nat) (hq : q < 5) : hasB m (q : Int) = m.testBit q := by
  rw [hasB_eq, decide_eq_true (by omega), Bool.true_and, Int.toNat_natCast]
theorem RecsAt.told {w : World} {b : Nat} {S : Nat → RA} (h : RecsAt w b S) {m : Nat} {a : Option Addr} {n c : Nat} (hr : Rd w 5 a n c (toldC m S 5)) : RdR w a n c (toldL m (fun p => (S p).r) 5) := by
  refine RdR.ofCells (ys := ((List.range 5).filter fun p => m.testBit p).map fun p => raC (S p)) (by rw [← List.flatMap_def]; exact hr) (by simp [toldL]) fun i hi hl => ?_
  simp only [toldL, List.getElem_map]
  have hp : ((List.range 5).filter fun p => m.testBit p)[i]'(by simpa using hi) < 5 := List.mem_range.1 (List.mem_filter.1 (List.getElem_mem _)).1
  exact ⟨_, _, _, rfl, (h.ok _ hp).1⟩
theorem Good.tot {i m : Nat} {R : Nat → Rc} {G : List Vw} (g : Good i R G) : tot (toldL m R 5) ≤ 1000000 := by
  have h1 : ∀ l : List Rc, (∀ r ∈ l, r.pend.length ≤ 32) → Go.Proofs.Ytnpinkcadkkeoaa.tot l ≤ 32 * l.length := by
    intro l
    induction l with
    | nil => intro _; exact Nat.le_refl _
    | cons x l ih =>
      intro h
      have a := h x (List.mem_cons_self ..)
      have b := ih (fun r hr => h r (List.mem_cons_of_mem _ hr))
      have e : Go.Proofs.Ytnpinkcadkkeoaa.tot (x :: l) = x.pend.length + Go.Proofs.Ytnpinkcadkkeoaa.tot l := by simp [Go.Proofs.Ytnpinkcadkkeoaa.tot]
      rw [e, List.length_cons]; omega
  have h2 := toldL_len m R 5 (Nat.le_refl _)
  have h3 := h1 (toldL m R 5) fun r hr => by obtain ⟨p, hp, _, rfl⟩ := toldL_mem.1 hr; exact g.few p hp
  omega
theorem Good.wfs {i m : Nat} {R : Nat → Rc} {G : List Vw} (g : Good i R G) : ∀ r ∈ toldL m R 5, r.Wf := fun r hr => by obtain ⟨p, hp, _, rfl⟩ := toldL_mem.1 hr; exact g.wf p hp
theorem Good.congr {i : Nat} {R R' : Nat → Rc} {G : List Vw} (g : Good i R G) (h : ∀ p, p < 5 → R' p = R p) : Good i R' G :=
  ⟨g.ch, fun p hp => by rw [h p hp]; exact g.wf p hp, fun p hp => by rw [h p hp]; exact g.few p hp, fun p hp => by rw [h p hp]; exact g.num p hp, fun p hp => by rw [h p hp]; exact g.last p hp, fun j hj p hp hb => by rw [h p hp]; exact g.known j hj p hp hb, g.mems⟩
set_option maxHeartbeats 6400000 in
set_option maxRecDepth 100000 in
theorem chain_law0 (sa : Option Addr) (n c : Nat) (l : List Rnd) (hwf : ∀ r ∈ l, r.Wf) (w : World) (hr : RdN w sa n c l) :
    Calls Try.prog 6 #[.slice sa n c] w fun e w' => e = .returned (.bool true) ∧ Below w.heap.size w w' := by
  have hln := hr.len
  have hmx := Rd.le_max hr
  unfold maxLen at hmx
  go_enter Try.func6, Try.ntmps6
  go_wp2_with fail
  refine (awake_any _).mono ?_
  rintro e w1 ⟨rfl, E⟩
  replace hr : RdN w1 sa n c l := Rd.below hr E (Nat.le_refl _)
  by_cases hbig : (60 : Int) < n
  · go_wp2
    go_ret
    exact ⟨rfl, E⟩
  · have hn : n ≤ 60 := by omega
    have hl := Lib.hid hln
    clear hln
    have hBz := BlkAt.new w1 56 (rowC [] (fun _ => raC raz) 5)
    have hbz : Below w1.heap.size w1 (w1.alloc (.cells (rowC [] (fun _ => raC raz) 5) 56)) := (Below.refl _ _).alloc (Nat.le_refl _) _
    have hsz : w1.heap.size < (w1.alloc (.cells (rowC [] (fun _ => raC raz) 5) 56)).heap.size := by simp
    go_wp2_with (refine wpList_blk_alloc rfl rfl Try.recsZ w1.heap.size rfl ?_; change wpList _ _ _ _ _ (w1.alloc (.cells (rowC [] (fun _ => raC raz) 5) 56)); generalize w1.alloc _ = w2 at *)
    have hR0 : RecsAt w2 w1.heap.size (fun _ => raz) := ⟨hBz, fun p _ => ⟨RdV.nil _, fun g off e => by cases e⟩⟩
    have hrb := E.size
    have hr1 := Lib.hid (fun W (h : Below w1.heap.size w1 W) => (Rd.below hr h (Nat.le_refl _) : RdN W sa n c l))
    have haddr := Lib.hid (fun (h : 0 < n) => Rd.addr hr h)
    clear hr
    have E := Lib.hid E
    generalize w1.heap.size = rb at *
    clear hBz
    go_loopw [4] (fun i wr => ∃ (k : Nat) (S : Nat → RA), k ≤ 5 ∧ i = .int .i64 k ∧ Hid (∀ p, S p = if p < k then ra0 else raz) ∧ RecsAt wr rb S ∧ Below rb w1 wr) (fun i _ => 5 - (intOf i).toNat)
    case atStart => exact ⟨0, _, Nat.zero_le _, rfl, (fun p => (if_neg (Nat.not_lt_zero p)).symm), hR0, hbz⟩
    case round =>
      clear hR0 hbz hsz
      obtain ⟨k, S, hk, rfl, hS, hR, hB1⟩ := hrel
      by_cases hlt : k < 5
      · have hkI : (k : Int) < 5 := by omega
        go_wp2_with fail
        refine (first5 _).mono ?_
        rintro e w3 ⟨rfl, hb⟩
        replace hB1 := hB1.trans (hb.mono (Nat.le_of_lt hR.lt))
        replace hR := hR.below hb
        clear hb
        obtain ⟨c0, c1, c2, c3, c4⟩ := hR.at5 k hlt
        obtain ⟨f0, f1, f2, f3, f4⟩ := hR.fz5 k
        have HS : Hid (RecsAt (((((w3.setCell ⟨rb, k * 5, none⟩ (.int .u64 0)).setCell ⟨rb, k * 5 + 1, none⟩ (.int .u64 0)).setCell ⟨rb, k * 5 + 2, none⟩ (.int .i64 0)).setCell ⟨rb, k * 5 + 3, none⟩ (.int .u64 31)).setCell ⟨rb, k * 5 + 4, none⟩ (.slice none 0 0)) rb (setR S k ra0) ∧ Kp rb w3 (((((w3.setCell ⟨rb, k * 5, none⟩ (.int .u64 0)).setCell ⟨rb, k * 5 + 1, none⟩ (.int .u64 0)).setCell ⟨rb, k * 5 + 2, none⟩ (.int .i64 0)).setCell ⟨rb, k * 5 + 3, none⟩ (.int .u64 31)).setCell ⟨rb, k * 5 + 4, none⟩ (.slice none 0 0))) :=
          RecsAt.store hR k hlt ra0 ⟨RdV.nil _, fun g off e => by cases e⟩
        have hS2 : Hid (∀ p, setR S k ra0 p = if p < k + 1 then ra0 else raz) := fun p => by
          unfold setR
          by_cases e : p = k
          · rw [if_pos e, if_pos (by omega)]
          · rw [if_neg e, hS.out p]
            by_cases e2 : p < k
            · rw [if_pos e2, if_pos (by omega)]
            · rw [if_neg e2, if_neg (by omega)]
        go_wp2
        go_roundw
        case rel => exact ⟨k + 1, _, by omega, by go_num, hS2.out, HS.out.1, Kp.below hB1 HS.out.2 (Nat.le_refl _) (Nat.le_of_lt hR.lt)⟩
        case measure => simp [intOf]; omega
      · have hk5 : k = 5 := by omega
        have hkI : ¬ (k : Int) < 5 := by omega
        have hG : Hid (Good 0 (fun p => (S p).r) [v00]) := good0.congr fun p hp => by rw [hS.out p, if_pos (by omega)]; rfl
        have hAp0 : Hid (Apart (.slice none 0 0) S) := fun p hp hn => by rw [hS.out p, if_pos (by omega)] at hn; exact absurd rfl hn
        clear hS
        go_wp2
        go_loopw [5, 6] (fun o i wr => ∃ (k : Nat) (F : List Vw) (S : Nat → RA), k ≤ n ∧ i = .int .i64 k ∧ Hid (Good k (fun p => (S p).r) (v00 :: F)) ∧ F.length ≤ k ∧ RecsAt wr rb S ∧ wr.ownsRow (rb + 1) 31 4 o F.length (F.flatMap vwF) ∧ Below rb w1 wr ∧ Hid (Apart o S)) (fun _ i _ => n - (intOf i).toNat)
        case atStart => exact ⟨0, [], S, Nat.zero_le _, rfl, hG.out, Nat.zero_le _, hR, World.ownsRow_nil _ _ _ _, hB1, hAp0.out⟩
        case round =>
          clear hR hB1 hG hAp0
          obtain ⟨k, F, S, hk, rfl, hG, hFk, hR, hown, hB1, hAp⟩ := hrel
          have hrbl := hR.lt
          by_cases hlt : k < n
          · have hkl : k < l.length := by rw [hl.out]; exact hlt
            obtain ⟨bs, off, rfl, _⟩ := haddr.out (by omega)
            obtain ⟨d0, d1, d2⟩ := RdN.at (hr1.out _ hB1) k hkl
            have hkI : (k : Int) < n := by omega
            obtain ⟨hw0, hw1, hw2⟩ := hwf _ (List.getElem_mem hkl)
            have hd := Lib.hid (fun W h => RdN.at (hr1.out W h) k hkl)
            generalize l[k] = x at *
            have hAll := Lib.hid (fun W => all5 W)
            have hBo := Lib.hid (fun W => both_any x.m 31 hw0 (by decide) W)
            go_wp2
            go_quiet (first | (go_at_call 20; exact qS (hAll.out _)) | (go_at_call 25; exact qS (hBo.out _)))
            have hm5 := and31 x.m
            have hwr := hw1
            have hfo := hw2
            clear hAll hBo hw0 hw1 hw2 d0 d1 d2
            generalize x.m &&& 31 = m at *
            have hbD : Below wr.heap.size wr (wr.drewN nq) := belN (Below.refl _ _) nq
            replace hR := hR.below hbD
            replace hown := own_below hown hbD
            replace hB1 := hB1.trans (hbD.mono (Nat.le_of_lt hrbl))
            replace hrbl := hR.lt
            clear hbD
            generalize wr.drewN nq = wA at *
            go_wp2
            go_loopw [8, 9] (fun o i wr2 => ∃ q : Nat, q ≤ 5 ∧ i = .int .i64 q ∧ wr2.ownsRow wA.heap.size 34 5 o (toldL m (fun p => (S p).r) q).length (toldC m S q) ∧ Below wA.heap.size wA wr2) (fun _ i _ => 5 - (intOf i).toNat)
            case atStart => exact ⟨0, Nat.zero_le _, rfl, World.ownsRow_nil _ _ _ _, Below.refl _ _⟩
            case round =>
              obtain ⟨q, hq, rfl, hownT, hbA⟩ := hrel
              by_cases hq5 : q < 5
              · have hqI : (q : Int) < 5 := by omega
                have HH := fun W => has_any m q (by omega) W
                rw [hasB5 m q hq5] at HH
                have hLs := Lib.hid (toldL_succ m (fun p => (S p).r) q)
                have hCs := Lib.hid (toldC_succ m S q)
                cases hbit : m.testBit q with
                | false =>
                  rw [hbit] at HH
                  replace HH := Lib.hid HH
                  replace hLs : Hid (toldL m (fun p => (S p).r) (q + 1) = toldL m (fun p => (S p).r) q) := hLs.out.trans (by rw [hbit]; exact List.append_nil _)
                  replace hCs : Hid (toldC m S (q + 1) = toldC m S q) := hCs.out.trans (by rw [hbit]; exact List.append_nil _)
                  clear hbit
                  go_wp2_with fail
                  refine (HH.out _).mono ?_
                  rintro e w' ⟨rfl, rfl⟩
                  go_wp2
                  go_roundw
                  case rel => exact ⟨q + 1, by omega, by go_num, by rw [hLs.out, hCs.out]; exact hownT, hbA⟩
                  case measure => simp [intOf]; omega
                | true =>
                  rw [hbit] at HH
                  replace HH := Lib.hid HH
                  replace hLs : Hid (toldL m (fun p => (S p).r) (q + 1) = toldL m (fun p => (S p).r) q ++ [(S q).r]) := hLs.out.trans (by rw [hbit]; rfl)
                  replace hCs : Hid (toldC m S (q + 1) = toldC m S q ++ raC (S q)) := hCs.out.trans (by rw [hbit]; rfl)
                  clear hbit
                  obtain ⟨c0, c1, c2, c3, c4⟩ := (hR.below hbA).at5 q hq5
                  have hsz := hbA.size
                  have hln5 : (toldL m (fun p => (S p).r) q).length ≤ 5 := toldL_len m _ q (by omega)
                  generalize (toldL m (fun p => (S p).r) q) = tl at *
                  have o6 := hownT.alloc (.cells #[.int .u64 (S q).r.last.num, .int .u64 (S q).r.last.ce, .int .i64 (S q).r.last.cr, .int .u64 (S q).r.last.mem, .slice (S q).a (S q).n (S q).c] 34)
                  have hbX : Below wr.heap.size wr (wr.alloc (.cells #[.int .u64 (S q).r.last.num, .int .u64 (S q).r.last.ce, .int .i64 (S q).r.last.cr, .int .u64 (S q).r.last.mem, .slice (S q).a (S q).n (S q).c] 34)) := (Below.refl _ _).alloc (Nat.le_refl _) _
                  have hlv : Rd (wr.alloc (.cells #[.int .u64 (S q).r.last.num, .int .u64 (S q).r.last.ce, .int .i64 (S q).r.last.cr, .int .u64 (S q).r.last.mem, .slice (S q).a (S q).n (S q).c] 34)) 5 (some ⟨wr.heap.size, 0, none⟩) 1 1 (raC (S q)) := Rd.blk1 (cs := raC (S q)) rfl rfl
                  have b6 := belS hbA hbX
                  go_wp2_with fail
                  refine (HH.out _).mono ?_
                  rintro e w' ⟨rfl, rfl⟩
                  go_wp2_with (at_builtin; refine wpList_append_rd Try.recE rfl (.tmp 51) (.tmp 55) rfl o6 rfl hlv rfl (by intro u' hu; simp [raC] at hu; rcases hu with rfl | rfl | rfl | rfl | rfl <;> rfl) (by unfold maxLen; omega) (by omega) (by simp; omega) ?_; intro v' w' hown' hg')
                  go_roundw
                  case rel => exact ⟨q + 1, by omega, by go_num, by rw [hLs.out, hCs.out, List.length_append]; exact hown', belG b6 hg' b6.size (fun g hg => (o6.lt g hg).1)⟩
                  case measure => simp [intOf]; omega
              · have hq5 : q = 5 := by omega
                have hqI : ¬ (q : Int) < 5 := by omega
                subst hq5
                obtain ⟨ta, tc, rfl, hrt⟩ := Rd.own hownT
                have hRT : RdR wr ta (toldL m (fun p => (S p).r) 5).length tc (toldL m (fun p => (S p).r) 5) := (hR.below hbA).told hrt
                have HMy := Lib.hid (may_any m (by omega) ta _ tc (toldL m (fun p => (S p).r) 5) hG.out.wfs hG.out.tot wr hRT)
                have HNx := Lib.hid (fun W (h : Below wr.heap.size wr W) => next_any ta _ tc (toldL m (fun p => (S p).r) 5) hG.out.wfs W (hRT.below h))
                have hlt1 := Lib.hid (next_facts (m := m) hG.out (by omega))
                have hR3 := hR.below hbA
                have hown3 := own_below hown hbA
                have hB3 := hB1.trans (hbA.mono (Nat.le_of_lt hrbl))
                replace hrbl := hR3.lt
                generalize htoldl : (toldL m (fun p => (S p).r) 5) = told at *
                replace htoldl := Lib.hid htoldl
                generalize told.length = tn at *
                clear hownT hrt hRT hbA hown hB1 hR
                go_wp2_with fail
                refine HMy.out.mono ?_
                rintro e w4 ⟨rfl, hb⟩
                have HN4 := HNx.out _ hb
                have hR4 := hR3.below hb
                have hown4 := own_below hown3 hb
                have hB4 := hB3.trans (hb.mono (Nat.le_of_lt hrbl))
                cases hmay : mayB m told with
                | false =>
                  clear hb HN4 hR3 hown3 hB3 HNx HMy
                  go_wp2
                  go_roundw
                  case rel => exact ⟨k + 1, F, S, by omega, by go_num, hG.out.more, by omega, hR4, hown4, hB4, hAp.out⟩
                  case measure => simp [intOf]; omega
                | true =>
                  replace hmay := Lib.hid hmay
                  clear hb hR3 hown3 hB3 HNx HMy
                  replace hrbl := hR4.lt
                  go_wp2_with fail
                  refine HN4.mono ?_
                  rintro e w5 ⟨rfl, hb⟩
                  replace hR4 := hR4.below hb
                  replace hown4 := own_below hown4 hb
                  replace hB4 := hB4.trans (hb.mono (Nat.le_of_lt hrbl))
                  clear hb HN4
                  generalize hvn : nextL told = vn at *
                  replace hvn := Lib.hid hvn
                  have hZv := BlkAt.new w5 31 (vwA .zero)
                  go_wp2_with (first
                    | (refine wpList_blk_alloc rfl rfl Try.viewZ w5.heap.size rfl ?_)
                    | (refine wpList_blk_store rfl (.tmp 10) (.tmp 68) rfl rfl rfl hZv (Try.viewI .zero) rfl (by simp [Value.oneCell']) ?_; intro w6 hV hK hsz;
                       replace hK := alloc_store hK; clear hZv hsz))
                  have hrb5 := hR4.lt
                  have hCE : CE w1 rb w5.heap.size ⟨vn, k + 1, 0, m⟩ _ F S w6 := ⟨hR4.below hK, hV, own_below hown4 hK, hB4.trans (hK.mono (Nat.le_of_lt hrb5)), by omega, hAp.out⟩
                  obtain ⟨v, hv⟩ : ∃ v : Vw, v = ⟨vn, k + 1, 0, m⟩ := ⟨_, rfl⟩
                  rw [← hv] at hCE
                  replace hv := Lib.hid hv
                  generalize w5.heap.size = vb at *
                  clear hR4 hown4 hB4 hK hV
                  go_loopw [11, 12] (fun al i wr4 => ∃ (q : Nat) (S4 : Nat → RA) (b : Bool), q ≤ 5 ∧ i = .int .i64 q ∧ al = .bool b ∧ Hid (b = allW m x.wr (fun p => (S p).r) q) ∧ Hid (∀ p, p < 5 → (S4 p).r = wroteR m x.wr v (fun p => (S p).r) q p) ∧ CE w1 rb vb v u5 F S4 wr4) (fun _ i _ => 5 - (intOf i).toNat)
                  case atStart => exact ⟨0, S, true, Nat.zero_le _, rfl, rfl, rfl, (fun p _ => by unfold wroteR; rw [if_neg (fun h => Nat.not_lt_zero _ h.1)]), hCE⟩
                  case round =>
                    clear hCE
                    obtain ⟨q, S4, b, hq, rfl, rfl, hb, hS4, hCE⟩ := hrel
                    by_cases hq5 : q < 5
                    · have hqI : (q : Int) < 5 := by omega
                      have HH := fun W => has_any m q (by omega) W
                      rw [hasB5 m q hq5] at HH
                      have hAs := Lib.hid (allW_succ m x.wr (fun p => (S p).r) q)
                      cases hbit : m.testBit q with
                      | false =>
                        rw [hbit] at HH
                        replace HH := Lib.hid HH
                        replace hAs : Hid (allW m x.wr (fun p => (S p).r) (q + 1) = b) := hAs.out.trans (by rw [hbit, ← hb.out]; simp)
                        have hS5 : Hid (∀ p, p < 5 → (S4 p).r = wroteR m x.wr v (fun p => (S p).r) (q + 1) p) := fun p hp => by rw [hS4.out p hp, wroteR_same (fun h => by rw [hbit] at h; exact absurd h.1 (by decide))]
                        clear hbit
                        go_wp2_with fail
                        refine (HH.out _).mono ?_
                        rintro e w' ⟨rfl, rfl⟩
                        go_wp2
                        go_roundw
                        case rel => exact ⟨q + 1, S4, b, by omega, by go_num, rfl, hAs.out.symm, hS5.out, hCE⟩
                        case measure => simp [intOf]; omega
                      | true =>
                        rw [hbit] at HH
                        replace HH := Lib.hid HH
                        obtain ⟨d0, d1, d2⟩ := hd.out _ hCE.bel
                        have hsh := shr_bit x.wr q hwr
                        cases hbw : x.wr.testBit q with
                        | false =>
                          rw [hbw] at hsh
                          have hsh : bits BinOp.and IntKind.u64 ((x.wr : Int) / 2 ^ q) 1 = 0 := hsh
                          replace hAs : Hid (allW m x.wr (fun p => (S p).r) (q + 1) = false) := hAs.out.trans (by rw [hbit, hbw]; simp)
                          have hS5 : Hid (∀ p, p < 5 → (S4 p).r = wroteR m x.wr v (fun p => (S p).r) (q + 1) p) := fun p hp => by rw [hS4.out p hp, wroteR_same (fun h => by rw [hbw] at h; exact absurd h.2 (by decide))]
                          clear hbit hbw d0 d2
                          go_wp2_with fail
                          refine (HH.out _).mono ?_
                          rintro e w' ⟨rfl, rfl⟩
                          go_wp2
                          go_roundw
                          case rel => exact ⟨q + 1, S4, false, by omega, by go_num, rfl, hAs.out.symm, hS5.out, hCE⟩
                          case measure => simp [intOf]; omega
                        | true =>
                          rw [hbw] at hsh
                          have hsh : bits BinOp.and IntKind.u64 ((x.wr : Int) / 2 ^ q) 1 = 1 := hsh
                          clear d0 d2
                          have hS0 : Below wr.heap.size wr wr := Below.refl _ _
                          have hSall : Hid (∀ W, Below wr.heap.size wr W → (W.cell? ⟨rb, q * 5, none⟩ = some (.int .u64 (S4 q).r.last.num) ∧ W.cell? ⟨rb, q * 5 + 1, none⟩ = some (.int .u64 (S4 q).r.last.ce) ∧ W.cell? ⟨rb, q * 5 + 2, none⟩ = some (.int .i64 (S4 q).r.last.cr) ∧ W.cell? ⟨rb, q * 5 + 3, none⟩ = some (.int .u64 (S4 q).r.last.mem) ∧ W.cell? ⟨rb, q * 5 + 4, none⟩ = some (.slice (S4 q).a (S4 q).n (S4 q).c)) ∧ W.cell? ⟨vb, 0, none⟩ = some (.int .u64 v.num) ∧ W.cell? ⟨vb, 1, none⟩ = some (.int .u64 v.ce) ∧ W.cell? ⟨vb, 2, none⟩ = some (.int .i64 v.cr) ∧ W.cell? ⟨vb, 3, none⟩ = some (.int .u64 v.mem)) := fun W h => ⟨(hCE.recs.below h).at5 q hq5, vcells (hCE.blk.below h hCE.blk.lt)⟩
                          have hAdd := Lib.hid (fun W (h : Below wr.heap.size wr W) => add_ra (S4 q) v rb W ((hCE.recs.ok q hq5).below h) (Nat.lt_of_lt_of_le hCE.recs.lt h.size))
                          have hrq : Hid ((S4 q).r = (S q).r) := (hS4.out q hq5).trans wroteR_at
                          have hdr : Hid (decide ((S4 q).r.pend.length < 32) = decide ((S q).r.pend.length < 32)) := by rw [hrq.out]; exact rfl
                          replace hAs : Hid (allW m x.wr (fun p => (S p).r) (q + 1) = (b && decide ((S4 q).r.pend.length < 32))) := hAs.out.trans (show _ = _ from by simp only [hbit, hbw, hdr.out, ← hb.out, Bool.not_true, Bool.false_or, Bool.true_and])
                          have hWR := Lib.hid (fun p => wroteR_step (m := m) (wr := x.wr) (v := v) (R := fun p => (S p).r) (q := q) ⟨hbit, hbw⟩ p)
                          clear hbit hbw
                          generalize decide ((S4 q).r.pend.length < 32) = ok at *
                          go_wp2_with fail
                          refine (HH.out _).mono ?_
                          rintro e w' ⟨rfl, rfl⟩
                          go_wp2
                          go_region_held3 (fun W => (W.cell? ⟨rb, q * 5, none⟩ = some (.int .u64 (S4 q).r.last.num) ∧ W.cell? ⟨rb, q * 5 + 1, none⟩ = some (.int .u64 (S4 q).r.last.ce) ∧ W.cell? ⟨rb, q * 5 + 2, none⟩ = some (.int .i64 (S4 q).r.last.cr) ∧ W.cell? ⟨rb, q * 5 + 3, none⟩ = some (.int .u64 (S4 q).r.last.mem) ∧ W.cell? ⟨rb, q * 5 + 4, none⟩ = some (.slice (S4 q).a (S4 q).n (S4 q).c)) ∧ W.cell? ⟨vb, 0, none⟩ = some (.int .u64 v.num) ∧ W.cell? ⟨vb, 1, none⟩ = some (.int .u64 v.ce) ∧ W.cell? ⟨vb, 2, none⟩ = some (.int .i64 v.cr) ∧ W.cell? ⟨vb, 3, none⟩ = some (.int .u64 v.mem))
                            (exact hSall.out _ (by first | assumption | exact hS0.drew | exact hS0.drew.alloc (Nat.le_refl _) _ | exact hbF.alloc hbF.size _ | exact five_below y hbF (Nat.le_refl _) | exact five_below y (hbF.alloc hbF.size _) hbF.size))
                            (first
                              | (go_at_call 21; refine (hAdd.out _ (by first | exact hS0.drew | exact hS0.drew.alloc (Nat.le_refl _) _)).mono ?_; rintro e w9 ⟨y, rfl, hyr, hyo, hyp, hb9⟩;
                                 have hbF : Below wr.heap.size wr w9 := (by first | exact belS hS0.drew hb9 | exact belS (hS0.drew.alloc (Nat.le_refl _) _) hb9);
                                 try (have hz : BlkAt w9 wr.heap.size 34 #[.int .u64 0, .int .u64 0, .int .i64 0, .int .u64 0, .slice none 0 0] := (BlkAt.new wr.drew 34 #[.int .u64 0, .int .u64 0, .int .i64 0, .int .u64 0, .slice none 0 0]).below hb9 (by simp); obtain ⟨⟨z0, z1, z2, z3, z4⟩, g0, g1, g2, g3, g4⟩ := blk5 hz)))
                          all_goals
                            have hya : y.n ≠ 0 → ∀ g off, y.a = some ⟨g, off, none⟩ → Value.ownBlock u5 ≠ some g := fun hn g off e hg => by
                              rcases hyp.out with h | h
                              · rw [h] at hn e; exact hCE.apart q hq5 hn g off e hg
                              · have h1 := h g off e
                                have h2 := (hCE.own.lt g hg).2
                                first | exact Nat.lt_irrefl _ (Nat.lt_of_lt_of_le h2 h1) | (simp at h1; omega)
                            first
                              | (have hT := five_new y rfl hz
                                 have hbD := five_below y hbF (Nat.le_refl _)
                                 have hyD : RaOk (((((w9.setCell ⟨wr.heap.size, 0, none⟩ (.int .u64 y.r.last.num)).setCell ⟨wr.heap.size, 1, none⟩ (.int .u64 y.r.last.ce)).setCell ⟨wr.heap.size, 2, none⟩ (.int .i64 y.r.last.cr)).setCell ⟨wr.heap.size, 3, none⟩ (.int .u64 y.r.last.mem)).setCell ⟨wr.heap.size, 4, none⟩ (.slice y.a y.n y.c)) rb y := hyo.kp (five_kp y) (by
                                   rcases hyp.out with e | h
                                   · rw [e]
                                     rcases (hCE.recs.ok q hq5).lt with h | h
                                     · exact .inl h
                                     · exact .inr fun g off e => Nat.ne_of_lt (h g off e)
                                   · exact .inr fun g off e => by have := h g off e; simp at this; omega)
                                 generalize World.setCell _ ⟨wr.heap.size, 4, none⟩ _ = wD at *)
                              | (have hT := BlkAt.new w9 34 #[.int .u64 y.r.last.num, .int .u64 y.r.last.ce, .int .i64 y.r.last.cr, .int .u64 y.r.last.mem, .slice y.a y.n y.c]
                                 have hbD := hbF.alloc hbF.size (.cells #[.int .u64 y.r.last.num, .int .u64 y.r.last.ce, .int .i64 y.r.last.cr, .int .u64 y.r.last.mem, .slice y.a y.n y.c] 34)
                                 have hyD := hyo.below (alloc_below w9 (.cells #[.int .u64 y.r.last.num, .int .u64 y.r.last.ce, .int .i64 y.r.last.cr, .int .u64 y.r.last.mem, .slice y.a y.n y.c] 34))
                                 generalize w9.alloc _ = wD at *)
                            have hD := hCE.below hbD
                            obtain ⟨c0, c1, c2, c3, c4⟩ := hD.recs.at5 q hq5
                            obtain ⟨f0, f1, f2, f3, f4⟩ := hD.recs.fz5 q
                            have hSt := Lib.hid (hD.store q hq5 y hyD hya)
                            have hSr : Hid (∀ p, p < 5 → (setR S4 q y p).r = wroteR m x.wr v (fun p => (S p).r) (q + 1) p) := fun p hp => by
                              rw [hWR.out p]
                              unfold setR
                              by_cases e : p = q
                              · rw [if_pos e, if_pos e, hyr.out, hrq.out]
                              · rw [if_neg e, if_neg e, hS4.out p hp]
                            clear hyo hb9 hbF hCE hD hbD hyD hS0 hSall hAdd hyr hrq hya
                            obtain ⟨⟨t0, t1, t2, t3, t4⟩, _⟩ := blk5 hT
                            clear hT
                            cases b
                            all_goals
                              go_wp2
                              go_roundw
                              case rel => exact ⟨q + 1, setR S4 q y, _, by omega, by go_num, rfl, hAs.out.symm, hSr.out, hSt.out⟩
                              case measure => simp [intOf]; omega
                    · have hq5 : q = 5 := by omega
                      have hqI : ¬ (q : Int) < 5 := by omega
                      subst hq5
                      have hvw : Hid (v.Wf ∧ v.num ≤ k + 1 ∧ v.mem = m ∧ v.num = vn) := by
                        have h1 := hlt1.out
                        rw [hv.out]
                        exact ⟨⟨by show vn < _; omega, by show m < _; omega⟩, by show vn ≤ _; omega, rfl, rfl⟩
                      have hGW := Lib.hid ((Good.wrote (m := m) (wr := x.wr) hG.out hvw.out.1 hvw.out.2.1 5).congr (R' := fun p => (S4 p).r) (fun p hp => hS4.out p hp))
                      go_wp2
                      go_loopw [15, 16] (fun an i wr5 => ∃ (q : Nat) (S5 : Nat → RA) (a' : Bool), q ≤ 5 ∧ i = .int .i64 q ∧ an = .bool a' ∧ Hid (a' = (b && anyF m x.fo q)) ∧ Hid (∀ p, p < 5 → (S5 p).r = if b = true then formdR m x.fo v (fun p => (S4 p).r) q p else (S4 p).r) ∧ CE w1 rb vb v u5 F S5 wr5) (fun _ i _ => 5 - (intOf i).toNat)
                      case atStart => exact ⟨0, S4, false, Nat.zero_le _, rfl, rfl, (by cases b <;> rfl), (fun p _ => by split; (unfold formdR; rw [if_neg (fun h => Nat.not_lt_zero _ h.1)]); rfl), hCE⟩
                      case round =>
                        clear hCE
                        obtain ⟨q, S5, a', hq, rfl, rfl, ha, hS5, hCE⟩ := hrel
                        by_cases hq5 : q < 5
                        · have hqI : (q : Int) < 5 := by omega
                          cases b with
                          | false =>
                            go_wp2
                            go_roundw
                            case rel => exact ⟨q + 1, S5, a', by omega, by go_num, rfl, ha.out, hS5.out, hCE⟩
                            case measure => simp [intOf]; omega
                          | true =>
                            have HH := fun W => has_any m q (by omega) W
                            rw [hasB5 m q hq5] at HH
                            have hAs := Lib.hid (anyF_succ m x.fo q)
                            cases hbit : m.testBit q with
                            | false =>
                              rw [hbit] at HH
                              replace HH := Lib.hid HH
                              have hAs2 : Hid (a' = (true && anyF m x.fo (q + 1))) := ha.out.trans (by rw [hAs.out, hbit]; simp)
                              have hS6 : Hid (∀ p, p < 5 → (S5 p).r = if true = true then formdR m x.fo v (fun p => (S4 p).r) (q + 1) p else (S4 p).r) := fun p hp => by
                                rw [hS5.out p hp, if_pos rfl, if_pos rfl, formdR_same (fun h => by rw [hbit] at h; exact absurd h.1 (by decide))]
                              clear hbit
                              go_wp2_with fail
                              refine (HH.out _).mono ?_
                              rintro e w' ⟨rfl, rfl⟩
                              go_wp2
                              go_roundw
                              case rel => exact ⟨q + 1, S5, a', by omega, by go_num, rfl, hAs2.out, hS6.out, hCE⟩
                              case measure => simp [intOf]; omega
                            | true =>
                              rw [hbit] at HH
                              replace HH := Lib.hid HH
                              obtain ⟨d0, d1, d2⟩ := hd.out _ hCE.bel
                              have hsh := shr_bit x.fo q hfo
                              cases hbw : x.fo.testBit q with
                              | false =>
                                rw [hbw] at hsh
                                have hsh : bits BinOp.and IntKind.u64 ((x.fo : Int) / 2 ^ q) 1 = 0 := hsh
                                have hAs2 : Hid (a' = (true && anyF m x.fo (q + 1))) := ha.out.trans (by rw [hAs.out, hbit, hbw]; simp)
                                have hS6 : Hid (∀ p, p < 5 → (S5 p).r = if true = true then formdR m x.fo v (fun p => (S4 p).r) (q + 1) p else (S4 p).r) := fun p hp => by
                                  rw [hS5.out p hp, if_pos rfl, if_pos rfl, formdR_same (fun h => by rw [hbw] at h; exact absurd h.2 (by decide))]
                                clear hbit hbw d0 d1
                                go_wp2_with fail
                                refine (HH.out _).mono ?_
                                rintro e w' ⟨rfl, rfl⟩
                                go_wp2
                                go_roundw
                                case rel => exact ⟨q + 1, S5, a', by omega, by go_num, rfl, hAs2.out, hS6.out, hCE⟩
                                case measure => simp [intOf]; omega
                              | true =>
                                rw [hbw] at hsh
                                have hsh : bits BinOp.and IntKind.u64 ((x.fo : Int) / 2 ^ q) 1 = 1 := hsh
                                have hAs2 : Hid (true = (true && anyF m x.fo (q + 1))) := by show _ = _; rw [hAs.out, hbit, hbw]; simp
                                have hrq : Hid ((S5 q).r = (S4 q).r) := (hS5.out q hq5).trans ((if_pos rfl).trans formdR_at)
                                have hWR := Lib.hid (fun p => formdR_step (m := m) (fo := x.fo) (v := v) (R := fun p => (S4 p).r) (q := q) ⟨hbit, hbw⟩ p)
                                have hFo := Lib.hid (fun W (h : Below wr.heap.size wr W) => form_ra (S5 q) v rb W ((hCE.recs.ok q hq5).below h) (Nat.lt_of_lt_of_le hCE.recs.lt h.size) (by rw [hrq.out]; exact hGW.out.few q hq5))
                                have hS0 : Below wr.heap.size wr wr := Below.refl _ _
                                obtain ⟨c0, c1, c2, c3, c4⟩ := hCE.recs.at5 q hq5
                                obtain ⟨e0, e1, e2, e3⟩ := hCE.v4
                                clear hbit hbw d0 d1
                                go_wp2_with fail
                                refine (HH.out _).mono ?_
                                rintro e w' ⟨rfl, rfl⟩
                                go_wp2
                                go_region_law (first
                                  | (go_simp; go_at_call 22; refine (hFo.out _ hS0.drew).mono ?_; rintro e w9 ⟨y, rfl, hyr, hyo, hyp, hb9⟩;
                                     have hD := hCE.below (belS hS0.drew hb9);
                                     obtain ⟨i0, i1, i2, i3, i4⟩ := hD.recs.at5 q hq5;
                                     obtain ⟨f0, f1, f2, f3, f4⟩ := hD.recs.fz5 q))
                                all_goals
                                  have hSt := Lib.hid (hD.store q hq5 y hyo (fun _ g off e hg => Nat.lt_irrefl _ (Nat.lt_of_lt_of_le (hCE.own.lt g hg).2 (hyp.out g off e))))
                                  have hSr : Hid (∀ p, p < 5 → (setR S5 q y p).r = if true = true then formdR m x.fo v (fun p => (S4 p).r) (q + 1) p else (S4 p).r) := fun p hp => by
                                    rw [if_pos rfl, hWR.out p]
                                    unfold setR
                                    by_cases e : p = q
                                    · rw [if_pos e, if_pos e, hyr.out, hrq.out]
                                    · rw [if_neg e, if_neg e, hS5.out p hp]; simp
                                  clear hyo hyp hb9 hCE hD hS0 hFo hyr hrq c0 c1 c2 c3 c4 e0 e1 e2 e3 i0 i1 i2 i3 i4 f0 f1 f2 f3 f4
                                  go_wp2
                                  go_roundw
                                  case rel => exact ⟨q + 1, setR S5 q y, true, by omega, by go_num, rfl, hAs2.out, hSr.out, hSt.out⟩
                                  case measure => simp [intOf]; omega
                        · have hq5 : q = 5 := by omega
                          have hqI : ¬ (q : Int) < 5 := by omega
                          subst hq5
                          cases b with
                          | false =>
                            obtain rfl : a' = false := ha.out
                            have hGn : Hid (Good (k + 1) (fun p => (S5 p).r) (v00 :: F)) := hGW.out.congr fun p hp => by rw [hS5.out p hp]; simp
                            clear hGW
                            go_wp2
                            go_roundw
                            case rel => exact ⟨k + 1, F, S5, by omega, by go_num, hGn.out, by omega, hCE.recs, hCE.own, hCE.bel, hCE.apart⟩
                            case measure => simp [intOf]; omega
                          | true =>
                            cases a' with
                            | false =>
                              have hnf : anyF m x.fo 5 = false := ha.out.symm
                              have hGn : Hid (Good (k + 1) (fun p => (S5 p).r) (v00 :: F)) := hGW.out.congr fun p hp => by rw [hS5.out p hp, if_pos rfl, formdR_none hnf]
                              clear hGW hnf
                              go_wp2
                              go_roundw
                              case rel => exact ⟨k + 1, F, S5, by omega, by go_num, hGn.out, by omega, hCE.recs, hCE.own, hCE.bel, hCE.apart⟩
                              case measure => simp [intOf]; omega
                            | true =>
                              have hGn : Hid (Good (k + 1) (fun p => (S5 p).r) (v00 :: (F ++ [v]))) := by
                                have h1 := Good.formd (m := m) (wr := x.wr) (fo := x.fo) hG.out (by omega) hvw.out.1 hvw.out.2.2.1 hm5 (by rw [hvw.out.2.2.2, htoldl.out, hvn.out]) (by rw [htoldl.out]; exact hmay.out) hb.out.symm
                                refine h1.congr fun p hp => ?_
                                rw [hS5.out p hp, if_pos rfl]
                                unfold formdR
                                simp only [hS4.out p hp]
                              clear hGW
                              obtain ⟨e0, e1, e2, e3⟩ := hCE.v4
                              have o6 := hCE.own.alloc (.cells #[.int .u64 v.num, .int .u64 v.ce, .int .i64 v.cr, .int .u64 v.mem] 31)
                              have hlv : Rd (wr.alloc (.cells #[.int .u64 v.num, .int .u64 v.ce, .int .i64 v.cr, .int .u64 v.mem] 31)) 4 (some ⟨wr.heap.size, 0, none⟩) 1 1 (vwF v) := Rd.blk1 (cs := vwF v) rfl rfl
                              have hD := hCE.below (alloc_below wr (.cells #[.int .u64 v.num, .int .u64 v.ce, .int .i64 v.cr, .int .u64 v.mem] 31))
                              have hOk := hCE.recs.ok
                              go_wp2_with (at_builtin; refine wpList_append_apart Try.viewE rfl (.tmp 130) (.tmp 132) rfl o6 rfl hlv (by decide) rfl (by intro u' hu; simp [vwF] at hu; rcases hu with rfl | rfl | rfl | rfl <;> rfl) (by unfold maxLen; omega) (by omega) (Nat.le_trans hCE.recs.lt (by simp)) ?_; intro v' w' hown' hg' hap')
                              go_roundw
                              case rel =>
                                refine ⟨k + 1, F ++ [v], S5, by omega, by go_num, hGn.out, by rw [List.length_append]; simp; omega, hD.recs.grown hg' (fun e => by have := (o6.lt _ e).1; omega) (fun p hp hn g off e => hD.apart p hp hn g off e), by rw [List.length_append, List.flatMap_append]; simpa using hown', belG hD.bel hg' (Nat.le_of_lt hD.recs.lt) (fun g hg => by have := (o6.lt g hg).1; omega), fun p hp hn g off e hg => ?_⟩
                                rcases hap' with h | h
                                · rw [h] at hg; exact hD.apart p hp hn g off e hg
                                · have h1 := h g hg
                                  rcases (hOk p hp).lt with h2 | h2
                                  · exact hn h2
                                  · have := h2 g off e
                                    simp at h1
                                    omega
                              case measure => simp [intOf]; omega
          · obtain rfl : k = n := by omega
            obtain ⟨fa, fc, rfl, hrf⟩ := Rd.own hown
            have hrf : RdV wr fa F.length fc F := hrf
            have hch := Lib.hid hG.out.ch
            have hms := Lib.hid hG.out.mems
            have hEE := Lib.hid (E.out.trans (hB1.mono hrb))
            have hF60 : F.length ≤ 60 := by omega
            clear hG hR hown hB1 hAp hr1 haddr hrbl hFk
            go_wp2_with fail
            refine (all5 _).mono ?_
            rintro e w' ⟨rfl, rfl⟩
            go_wp2
            go_loopw [17, 18] (fun ah i wr7 => ∃ q am : Nat, q ≤ F.length ∧ i = .int .i64 q ∧ ah = .int .u64 am ∧ Hid ((v00 :: F)[q]?.map (·.mem) = some am) ∧ am < 32 ∧ Below wr.heap.size wr wr7) (fun _ i _ => F.length - (intOf i).toNat)
            case atStart => exact ⟨0, 31, Nat.zero_le _, rfl, rfl, rfl, by decide, Below.refl _ _⟩
            case round =>
              obtain ⟨q, am, hq, rfl, rfl, ham, ham5, hb7⟩ := hrel
              by_cases hlt7 : q < F.length
              · have hqI : (q : Int) < F.length := by omega
                obtain ⟨gs, goff, rfl, _⟩ := Rd.addr hrf (by omega)
                have hst := hch.out.step q (by simpa using hlt7)
                have e1 : (v00 :: F)[q + 1]'(by simpa using hlt7) = F[q] := rfl
                have hq' : q < (v00 :: F).length := by simp; omega
                have e2 : ((v00 :: F)[q]'hq').mem = am := by
                  have := ham.out
                  rw [List.getElem?_eq_getElem hq'] at this
                  simpa using this
                rw [e1, e2] at hst
                obtain ⟨hm1, hn1⟩ := hst
                have hFm : F[q].mem < 32 := hms.out _ (List.mem_cons_of_mem _ (List.getElem_mem hlt7))
                have HM := fun W => most_any F[q].mem am (by omega) (by omega) W
                rw [show mostB F[q].mem am = true from most_t.2 hm1] at HM
                replace HM := Lib.hid HM
                have hnx : Hid ((v00 :: F)[q + 1]?.map (·.mem) = some F[q].mem) := by
                  show F[q]?.map (·.mem) = _
                  rw [List.getElem?_eq_getElem hlt7]; rfl
                obtain ⟨c0, c1, c2, c3⟩ := (hrf.below hb7 (Nat.le_refl _)).at q hlt7
                cases q with
                | zero =>
                  simp only [Nat.zero_mul, Nat.add_zero] at c0 c1 c2 c3
                  generalize F[0] = u at *
                  clear hm1 hn1 e1 e2 ham
                  go_wp2
                  go_quiet (first | (go_at_call 23; exact qS (HM.out _)))
                  go_wp2
                  go_roundw
                  case rel => exact ⟨1, u.mem, by omega, rfl, rfl, hnx.out, hFm, belN hb7 _⟩
                  case measure => simp [intOf]; omega
                | succ j =>
                  obtain ⟨d0, d1, d2, d3⟩ := (hrf.below hb7 (Nat.le_refl _)).at j (by omega)
                  have e3 : ((v00 :: F)[j + 1]'hq') = F[j]'(by omega) := rfl
                  rw [e3] at hn1
                  have hnI : ((F[j]'(by omega)).num : Int) < F[j + 1].num := by omega
                  have hjI : (j : Int) < F.length := by omega
                  have hjI1 : (0 : Int) < (j : Int) + 1 := by omega
                  have hjI2 : (j : Int) + 1 < F.length := by omega
                  clear hm1 hn1 e1 e2 e3 ham
                  generalize F[j + 1] = u at *
                  generalize F[j]'(_) = u2 at *
                  go_wp2
                  go_quiet (first | (go_at_call 23; exact qS (HM.out _)))
                  go_wp2
                  go_roundw
                  case rel => exact ⟨j + 1 + 1, u.mem, by omega, by go_num, rfl, hnx.out, hFm, belN hb7 _⟩
                  case measure => simp [intOf]; omega
              · have hqI : ¬ (q : Int) < F.length := by omega
                go_wp2
                go_ret
                exact ⟨rfl, belS hEE.out hb7⟩
end Go.Proofs.Ytnpinkcadkkeoaa
