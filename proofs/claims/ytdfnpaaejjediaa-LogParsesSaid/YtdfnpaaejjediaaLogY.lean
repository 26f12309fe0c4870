/- log: the reference's printers: record -/
import Derived.Test.YtdfnpaaejjediaaLogX
namespace Go.Proofs.Ytdfnpaaejjediaa
open Go.RowKit Go.Sort

def rcS (r : Rc) : ByteArray := if recE r = 0 then strOfNums (recB r) else ⟨#[]⟩
theorem flat_take (l : List Vw) (k : Nat) (hk : k < l.length) : (l.take (k + 1)).flatMap vwB = (l.take k).flatMap vwB ++ vwB l[k] := by
  rw [List.take_succ_eq_append_getElem hk, List.flatMap_append]; simp
set_option maxHeartbeats 3200000 in
set_option maxRecDepth 100000 in
theorem rrecp_any (r : Rc) (pa : Option Addr) (pn pc : Nat) (hw : r.Wf) (w : World) (hp : RdV w pa pn pc r.pend) :
    Calls Try.prog 27 #[.agg #[.int .u64 r.last.num, .int .u64 r.last.ce, .int .i64 r.last.cr, .int .u64 r.last.mem, .slice pa pn pc]] w fun e w' => e = .returned (.tuple #[.string (rcS r), .int .i64 (recE r)]) ∧ Below w.heap.size w w' := by
  have hA := BlkAt.new w 41 #[.int .u64 r.last.num, .int .u64 r.last.ce, .int .i64 r.last.cr, .int .u64 r.last.mem, .slice pa pn pc]
  have E := (Below.refl w.heap.size w).alloc (Nat.le_refl _) (.cells #[.int .u64 r.last.num, .int .u64 r.last.ce, .int .i64 r.last.cr, .int .u64 r.last.mem, .slice pa pn pc] 41)
  have hl := Lib.hid hp.len
  have hmx := Rd.le_max hp
  unfold maxLen at hmx
  have hok := Lib.hid (show recE r = if r.last.ok = false then 1 else if 32 < r.pend.length then 3 else if r.pend.all Vw.ok then 0 else 1 from rfl)
  have hS0 := Lib.hid (fun h => show rcS r = strOfNums (recB r) from if_pos h)
  have hS1 := Lib.hid (fun h => show rcS r = ⟨#[]⟩ from if_neg h)
  have hB := Lib.hid (show recB r = vwB r.last ++ (beL r.pend.length 1 1 ++ r.pend.flatMap vwB) from rfl)
  replace hp : RdV _ pa pn pc r.pend := hp.below E (Nat.le_refl _)
  replace hw := Lib.hid hw
  have HV0 := Lib.hid (fun W (h : r.last.ok = false) => rvw_no r.last h W)
  have HV1 := Lib.hid (fun W (h : r.last.ok = true) => rvw_yes r.last hw.out.1 h W)
  generalize hre : recE r = re at *
  generalize rcS r = S at *
  clear hre
  go_enter Try.func27, Try.ntmps27
  go_wp2_with (first
    | (refine wpList_blk_box rfl (.tmp 0) rfl rfl w.heap.size rfl ?_)
    | (refine wpList_blk_get (cs := #[.int .u64 r.last.num, .int .u64 r.last.ce, .int .i64 r.last.cr, .int .u64 r.last.mem]) rfl (.tmp 10) rfl rfl hA Try.underlying27 rfl (Try.viewI _) (get4 rfl rfl rfl rfl) ?_))
  generalize w.alloc _ = w1 at *
  cases hlo : r.last.ok with
  | false =>
    have he := hok.out
    rw [if_pos hlo] at he
    have hS := hS1.out (by rw [he]; decide)
    subst he
    subst hS
    refine (HV0.out _ hlo).mono ?_
    rintro e w2 ⟨rfl, hb⟩
    replace E := belS E hb
    clear hok hS0 hS1 hB hlo
    go_wp2
    exact bodyPost_ret (v := .tuple #[.string ⟨#[]⟩, .int .i64 1]) (by simp [results, Try.results27, go_sem]) rfl ⟨rfl, E⟩
  | true =>
    have hok := Lib.hid (hok.out.trans (if_neg (by rw [hlo]; decide)))
    refine (HV1.out _ hlo).mono ?_
    rintro e w2 ⟨rfl, hb⟩
    replace E := belS E hb
    replace hA := hA.below hb hA.lt
    replace hp := hp.below hb (Nat.le_refl _)
    clear hlo hb HV0 HV1
    have c4 := hA.cell (i := 4) rfl
    by_cases h32 : 32 < pn
    · have h32I : (32 : Int) < pn := by omega
      have he := hok.out
      rw [hl.out, if_pos h32] at he
      have hS := hS1.out (by rw [he]; decide)
      subst he
      subst hS
      clear hok hS0 hS1 hB
      go_wp2
      exact bodyPost_ret (v := .tuple #[.string ⟨#[]⟩, .int .i64 3]) (by simp [results, Try.results27, go_sem]) rfl ⟨rfl, E⟩
    have h32I : ¬ (32 : Int) < pn := by omega
    have hok2 := hok.out
    rw [hl.out, if_neg h32] at hok2
    replace hok2 := Lib.hid hok2
    clear hok
    have hpn : IntKind.u64.wrap (pn : Int) = pn := by rw [IntKind.wrap_u64]; omega
    have HP := Lib.hid (fun W => rputA (vwB r.last) pn 1 1 rfl W (by rw [vwB_len]; omega) (by omega) (by omega))
    have hL0 : (vwB r.last ++ beL pn 1 1).length = 26 := by rw [List.length_append, vwB_len, beL_len]
    have hB2 : recB r = (vwB r.last ++ beL pn 1 1) ++ r.pend.flatMap vwB := by rw [hB.out, hl.out, List.append_assoc]
    replace hL0 := Lib.hid hL0
    replace hB2 := Lib.hid hB2
    generalize vwB r.last ++ beL pn 1 1 = l0 at *
    clear hB
    go_wp2_with fail
    refine (HP.out _).mono ?_
    rintro e w3 ⟨rfl, hb⟩
    replace E := belS E hb
    replace hA := hA.below hb hA.lt
    replace hp := hp.below hb (Nat.le_refl _)
    clear hb c4 HP hpn
    go_wp2
    go_loopw [4, 6] (fun q i wr => ∃ k : Nat, k ≤ pn ∧ i = .int .i64 k ∧ q = .string (strOfNums (l0 ++ (r.pend.take k).flatMap vwB)) ∧ Hid (∀ j (hj : j < k) (hl : j < r.pend.length), r.pend[j].ok = true) ∧ Below w3.heap.size w3 wr) (fun _ i _ => pn - (intOf i).toNat)
    case atStart => exact ⟨0, Nat.zero_le _, rfl, by simp, (fun j hj => by omega), Below.refl _ _⟩
    case round =>
      obtain ⟨k, hk, rfl, rfl, hall, hbr⟩ := hrel
      have c4 : wr.cell? ⟨w.heap.size, 4, none⟩ = some (.slice pa pn pc) := (hA.below hbr hA.lt).cell rfl
      by_cases hlt : k < pn
      · have hkl : k < r.pend.length := by rw [hl.out]; exact hlt
        have hkI : (k : Int) < pn := by omega
        obtain ⟨b, off, rfl, _⟩ := Rd.addr hp (by omega)
        obtain ⟨d0, d1, d2, d3⟩ := (hp.below hbr (Nat.le_refl _)).at k hkl
        have hvw := hw.out.2 _ (List.getElem_mem hkl)
        have HT := Lib.hid (flat_take r.pend k hkl)
        have HA1 := Lib.hid (fun (h : (r.pend[k]'hkl).ok = true) j (hj : j < k + 1) (hl : j < r.pend.length) => show r.pend[j].ok = true from by
          by_cases e : j = k
          · subst e; exact h
          · exact hall.out j (by omega) hl)
        have HA0 := Lib.hid (fun (h : (r.pend[k]'hkl).ok = false) => show r.pend.all Vw.ok = false from by
          rw [List.all_eq_false]
          exact ⟨_, List.getElem_mem hkl, by rw [h]; decide⟩)
        have hql : ((r.pend.take k).flatMap vwB).length ≤ 1000 := by rw [flatB_len, List.length_take]; omega
        generalize hu : r.pend[k]'hkl = u at *
        generalize hq : (r.pend.take k).flatMap vwB = q at *
        clear hq hu
        cases hlo : u.ok with
        | false =>
          have he := hok2.out
          rw [if_neg (by rw [HA0.out hlo]; decide)] at he
          have hS := hS1.out (by rw [he]; decide)
          subst he
          subst hS
          have HV := Lib.hid (fun W => rvw_no u hlo W)
          clear hok2 hS0 hS1 HA0 HA1 HT hall hlo hvw hql
          go_wp2_with fail
          refine (HV.out _).mono ?_
          rintro e w4 ⟨rfl, hb⟩
          go_wp2
          exact bodyPost_ret (v := .tuple #[.string ⟨#[]⟩, .int .i64 1]) (by simp [results, Try.results27, go_sem]) rfl ⟨rfl, belS E (belS hbr hb)⟩
        | true =>
          have HV := Lib.hid (fun W => rvw_yes u hvw hlo W)
          have HA2 := Lib.hid (HA1.out hlo)
          have hcat : ¬ 9223372036854775807 < (strOfNums (l0 ++ q)).size + (strOfNums (vwB u)).size := by rw [strOfNums_len, strOfNums_len, List.length_append, hL0.out, vwB_len]; omega
          clear HA0 HA1 hall hlo hvw
          go_wp2_with fail
          refine (HV.out _).mono ?_
          rintro e w4 ⟨rfl, hb⟩
          go_wp2
          go_roundw
          case rel => exact ⟨k + 1, by omega, by go_num, by rw [HT.out, strOfNums_app, List.append_assoc], HA2.out, belS hbr hb⟩
          case measure => simp [intOf]; omega
      · have hkI : ¬ (k : Int) < pn := by omega
        obtain rfl : k = pn := by omega
        have hall2 : r.pend.all Vw.ok = true := by
          rw [List.all_eq_true]
          intro v hv
          obtain ⟨j, hj, rfl⟩ := List.mem_iff_getElem.1 hv
          exact hall.out j (by rw [hl.out] at hj; exact hj) hj
        have he := hok2.out
        rw [if_pos hall2] at he
        have hS := hS0.out he
        rw [hB2.out] at hS
        have hq : (r.pend.take k).flatMap vwB = r.pend.flatMap vwB := by rw [List.take_of_length_le (by rw [hl.out]; exact Nat.le_refl _)]
        rw [hq]
        generalize r.pend.flatMap vwB = q at *
        subst he
        subst hS
        clear hok2 hS0 hS1 hall hall2 hq
        go_wp2
        exact bodyPost_ret (v := .tuple #[.string (strOfNums (l0 ++ q)), .int .i64 0]) (by simp [results, Try.results27, go_sem]) rfl ⟨rfl, belS E hbr⟩
end Go.Proofs.Ytdfnpaaejjediaa
