/- text: the reader's event: its kind -/
import Derived.Test.YtpkknhhohbobaaaGreatDoorTxtVQ
namespace Go.Proofs.YtpkknhhohbobaaaGreatDoor
set_option linter.unusedSimpArgs false
set_option linter.unusedVariables false
open Go.RowKit Go.Sort
section
variable {b : Nat} {w w' : World} {ws : List W8}
/-- The kind, as the loop over the words finds it. -/
def kdN (u : W8) : Nat → Nat
  | 0 => 0
  | i + 1 => if kindW i = u then i else kdN u i
theorem kdN_kind : ∀ k : Fin 13, kdN (kindW k.val) 13 = k.val := by decide +kernel
theorem kindN_kind : ∀ k : Fin 13, kindN (kindW k.val) = k.val := by decide +kernel
theorem kdN_no {u : W8} (h : ∀ i, i < 13 → kindW i ≠ u) : ∀ n, n ≤ 13 → kdN u n = 0
  | 0, _ => rfl
  | n + 1, hn => by
    unfold kdN
    rw [if_neg (h n (by omega)), kdN_no h n (by omega)]
theorem kdN_eq (u : W8) : kdN u 13 = kindN u := by
  by_cases h : ∃ k : Fin 13, kindW k.val = u
  · obtain ⟨k, rfl⟩ := h
    rw [kdN_kind k, kindN_kind k]
  · have h' : ∀ i, i < 13 → kindW i ≠ u := fun i hi e => h ⟨⟨i, hi⟩, e⟩
    rw [kdN_no h' 13 (Nat.le_refl _)]
    unfold kindN
    split
    · rfl
    · have hn : kindWs.findIdx? (· == u) = none := by
        rw [List.findIdx?_eq_none_iff]
        intro x hx
        obtain ⟨i, hi, rfl⟩ := List.getElem_of_mem hx
        have hi13 : i < 13 := hi
        have := h' i hi13
        unfold kindW at this
        rw [List.getD_eq_getElem?_getD, List.getElem?_eq_getElem hi] at this
        exact beq_eq_false_iff_ne.2 this
      rw [hn]
      rfl
theorem kdN_le (u : W8) : ∀ n, kdN u n ≤ n
  | 0 => Nat.le_refl _
  | n + 1 => by
    have := kdN_le u n
    unfold kdN
    split <;> omega
theorem words_row (w : World) : Rd (w.alloc (.cells (kindWs.map sv).toArray 9)) 1 (some ⟨w.heap.size, 0, none⟩) 13 13 (kindWs.map sv) := by
  have hl : (kindWs.map sv).length = 13 := by rw [List.length_map]; rfl
  generalize kindWs.map sv = l at *
  have := Rd.lit (w := w) (cs := l.toArray) (e := 9) (b := w.heap.size) (n := 13) rfl (by simp [hl]) (by decide)
  simpa using this
theorem parseW_cons (p k : W8) (r : List W8) : parseW (p :: k :: r) = (match valN p 63 with
    | some p => if kindN k = 0 then none else match rowT (rowL (kindN k)) (begE (kindN k) p) r with
      | some (y, []) => some y
      | _ => none
    | none => none) := rfl
theorem parseW_t1 {l : List W8} (h : takeN 63 l = none) : parseW l = none := by
  cases l with
  | nil => rfl
  | cons p l =>
    cases l with
    | nil => rfl
    | cons k r =>
      have hv : valN p 63 = none := by
        rw [takeN_cons] at h
        cases e : valN p 63 with
        | none => rfl
        | some v => rw [e] at h; cases h
      rw [parseW_cons, hv]
theorem parseW_t2 {l : List W8} {v : Nat} (h : takeN 63 l = some (v, [])) : parseW l = none := by
  cases l with
  | nil => rfl
  | cons p l =>
    cases l with
    | nil => rfl
    | cons k r =>
      rw [takeN_cons] at h
      cases e : valN p 63 with
      | none => rw [e] at h; cases h
      | some v => rw [e] at h; cases h
/-- What the reading of an event answers. -/
def PRE (o : Option TEv) (B : Nat) (e : Ending) (w' : World) : Prop := match o with
  | none => e = pan 4
  | some y => ∃ da dc na nc, e = .returned (.agg (evC y da y.m.deps.length dc na y.names.length nc)) ∧ Rd w' 1 da y.m.deps.length dc (c32 y.m.deps) ∧ Rd w' 2 na y.names.length nc (y.names.flatMap nmC) ∧ (y.m.deps.length ≠ 0 → ∀ g off, da = some ⟨g, off, none⟩ → B ≤ g) ∧ (y.names.length ≠ 0 → ∀ g off, na = some ⟨g, off, none⟩ → B ≤ g)
theorem PRE.no {o : Option TEv} {B : Nat} {e : Ending} (h : o = none) (he : e = pan 4) : PRE o B e w := by subst h; exact he
theorem PRE.yes {o : Option TEv} {B : Nat} {y : TEv} {e : Ending} {da na : Option Addr} {dc nc : Nat} (h : o = some y) (he : e = .returned (.agg (evC y da y.m.deps.length dc na y.names.length nc))) (hd : Rd w 1 da y.m.deps.length dc (c32 y.m.deps)) (hn : Rd w 2 na y.names.length nc (y.names.flatMap nmC))
    (hdb : y.m.deps.length ≠ 0 → ∀ g off, da = some ⟨g, off, none⟩ → B ≤ g) (hnb : y.names.length ≠ 0 → ∀ g off, na = some ⟨g, off, none⟩ → B ≤ g) : PRE o B e w := by
  subst h
  exact ⟨da, dc, na, nc, he, hd, hn, hdb, hnb⟩
/-- Only a row that is used up makes an event. -/
def fin : Option (TEv × List W8) → Option TEv
  | some (y, []) => some y
  | _ => none
theorem parseW_some {l : List W8} {p : Nat} {u : W8} {r : List W8} (h : takeN 63 l = some (p, u :: r)) : parseW l = if kindN u = 0 then none else fin (rowT (rowL (kindN u)) (begE (kindN u) p) r) := by
  cases l with
  | nil => cases h
  | cons q l =>
    rw [takeN_cons] at h
    cases e : valN q 63 with
    | none => rw [e] at h; cases h
    | some v =>
      rw [e] at h
      simp only [Option.map_some, Option.some.injEq, Prod.mk.injEq] at h
      obtain ⟨rfl, rfl⟩ := h
      rw [parseW_cons, e]
      show (if kindN u = 0 then none else _) = _
      split
      · rfl
      · generalize rowT (rowL (kindN u)) (begE (kindN u) v) r = o
        rcases o with _ | ⟨y, _ | ⟨a, b⟩⟩ <;> rfl
theorem kdN_lt (u : W8) : ∀ n, 0 < n → kdN u n < n
  | 0, h => absurd h (by decide)
  | 1, _ => by unfold kdN; split <;> simp [kdN]
  | n + 2, _ => by
    have := kdN_lt u (n + 1) (by omega)
    unfold kdN
    split <;> omega
theorem kindN_lt (u : W8) : kindN u < 13 := by rw [← kdN_eq]; exact kdN_lt u 13 (by decide)
def sw1 : Nat → List Lt
  | 1 => [.c, .m] | 2 => [.c, .n, .m] | 3 => [.c, .s] | 4 => [.c, .n, .s] | 7 => [.v, .a] | 8 => [.v, .o] | 9 => [.v, .o] | 10 => [.v, .o] | 11 => [.v, .o] | 12 => [.v, .o] | _ => []
def sw2 : Nat → List Lt
  | 8 => [.m] | 9 => [.m] | 11 => [.b] | _ => []
theorem sw_row : ∀ k : Fin 13, rowL k.val = sw1 k.val ++ sw2 k.val := by decide +kernel
theorem rowT_app : ∀ (l1 l2 : List Lt) (x : TEv) (l : List W8), rowT (l1 ++ l2) x l = (rowT l1 x l).bind fun (y, l) => rowT l2 y l
  | [], _, _, _ => rfl
  | f :: r, l2, x, l => by
    show (fieldT f x l).bind (fun (y, l) => rowT (r ++ l2) y l) = ((fieldT f x l).bind (fun (y, l) => rowT r y l)).bind _
    cases fieldT f x l with
    | none => rfl
    | some p => exact rowT_app r l2 p.1 p.2
theorem Tryz.nmE : Elt Tryz.prog 32 96 (.agg #[.int .i64 0, .int .u32 0]) 2 16 := ⟨by kernel_rfl, by kernel_rfl, rfl, by decide⟩
theorem own_newn {w : World} {e : TypeId} {cs : Array Value} {sz : Nat} {xs : List Value} (hc : cs.toList = xs) (hs : xs.length = sz) : World.ownsRow (w.alloc (.cells cs e)) w.heap.size e sz (.slice (some ⟨w.heap.size, 0, none⟩) 1 1) 1 xs := by
  have : cs.size = sz := by rw [← hs, ← hc]; simp
  refine ⟨by rw [hs, Nat.one_mul], .inr ⟨w.heap.size, 1, cs, rfl, Nat.le_refl _, BlkAt.new w e cs, by decide, by decide, by rw [this, Nat.one_mul], ?_⟩⟩
  rw [hc, ← hs, Nat.one_mul]
  exact List.take_length
theorem rd_newn {w : World} {e : TypeId} {cs : Array Value} {sz : Nat} {xs : List Value} (hc : cs.toList = xs) (hs : xs.length = sz) : Rd (w.alloc (.cells cs e)) sz (some ⟨w.heap.size, 0, none⟩) 1 1 xs := by
  obtain ⟨a, c, h, hr⟩ := Rd.own (own_newn (w := w) (e := e) hc hs)
  injection h with e1 e2 e3
  subst e1 e3
  exact hr
theorem RdT.lenAt (h : RdT w b ws) : ∃ a c, w.cell? ⟨b, 0, none⟩ = some (.slice a ws.length c) := by
  obtain ⟨a, n, c, h1, h2, _⟩ := h
  have hl := h2.length_eq
  rw [List.length_map, Nat.mul_one] at hl
  subst hl
  exact ⟨a, c, h1.cell rfl⟩
/-- How many words are left, as the world tells it. -/
def lenW (b : Nat) (w : World) : Nat := match w.cell? ⟨b, 0, none⟩ with
  | some (.slice _ n _) => n
  | _ => 0
theorem RdT.lenW (h : RdT w b ws) : lenW b w = ws.length := by
  obtain ⟨a, c, e⟩ := h.lenAt
  unfold Go.Proofs.YtpkknhhohbobaaaGreatDoor.lenW
  rw [e]
/-- What holds while an event is read: w is the world at its beginning. -/
structure EvS (w W : World) (mb xb b : Nat) (y : TEv) (da : Option Addr) (dc : Nat) (na : Option Addr) (nc : Nat) (l : List W8) : Prop where
  ord : b < w.heap.size ∧ w.heap.size ≤ mb ∧ mb < xb
  bk : BlkAt W xb 34 (evC y da y.m.deps.length dc na y.names.length nc)
  dr : Rd W 1 da y.m.deps.length dc (c32 y.m.deps)
  db : y.m.deps.length ≠ 0 → ∀ g off, da = some ⟨g, off, none⟩ → xb + 1 ≤ g
  nr : W.ownsRow (xb + 1) 96 2 (.slice na y.names.length nc) y.names.length (y.names.flatMap nmC)
  m : BlkAt W mb 34 #[.int .i64 0, .int .i64 0, .int .u64 0, .int .i64 0, .int .u64 0, .int .i64 0, .int .u64 0, .int .i64 0, .int .u32 0, .int .u64 0, .int .i64 0, .slice none 0 0, .string ⟨#[]⟩, .int .u64 0, .int .u64 0, .int .i64 0, .int .u64 0, .slice none 0 0, .string ⟨#[]⟩]
  r : RdT W b l
  k : Kp b w W
theorem evC_one (y : TEv) (da na : Option Addr) (dn dc nn nc : Nat) : (evC y da dn dc na nn nc).all (·.oneCell') = true := by kernel_rfl
theorem evC_size (y : TEv) (da na : Option Addr) (dn dc nn nc : Nat) : (evC y da dn dc na nn nc).size = 19 := rfl
theorem evC_set (y : TEv) (da na : Option Addr) (dn dc nn nc : Nat) : setArr #[.int .i64 0, .int .i64 0, .int .u64 0, .int .i64 0, .int .u64 0, .int .i64 0, .int .u64 0, .int .i64 0, .int .u32 0, .int .u64 0, .int .i64 0, .slice none 0 0, .string ⟨#[]⟩, .int .u64 0, .int .u64 0, .int .i64 0, .int .u64 0, .slice none 0 0, .string ⟨#[]⟩] 0 (evC y da dn dc na nn nc).toList = evC y da dn dc na nn nc := by kernel_rfl
section
variable {W W' : World} {mb xb : Nat} {y y' : TEv} {da na da' na' : Option Addr} {dc nc dc' nc' : Nat} {l l' : List W8} {cs : Array Value}
theorem EvS.kk (h : EvS w W mb xb b y da dc na nc l) (k : Kp b W W') (r : RdT W' b l') : EvS w W' mb xb b y da dc na nc l' := by
  obtain ⟨o1, o2, o3⟩ := h.ord
  exact ⟨h.ord, k.blk h.bk (by omega), Kp.rdN k h.dr h.db (by omega), h.db, own_keep h.nr (fun g hg hlt => k.block g hlt (by have := (h.nr.lt g hg).1; omega)), k.blk h.m (by omega), r, h.k.trans k⟩
theorem EvS.putN (h : EvS w W mb xb b y da dc na nc l) (hX : BlkAt W' xb 34 cs) (K : Kp xb W W') (hs : W'.heap.size = W.heap.size) (hc : cs = evC y' da' y'.m.deps.length dc' na' y'.names.length nc')
    (hd : Rd W 1 da' y'.m.deps.length dc' (c32 y'.m.deps)) (hdb : y'.m.deps.length ≠ 0 → ∀ g off, da' = some ⟨g, off, none⟩ → xb + 1 ≤ g)
    (hn : W.ownsRow (xb + 1) 96 2 (.slice na' y'.names.length nc') y'.names.length (y'.names.flatMap nmC)) : EvS w W' mb xb b y' da' dc' na' nc' l := by
  obtain ⟨o1, o2, o3⟩ := h.ord
  subst hc
  exact ⟨h.ord, hX, Kp.rdN K hd hdb (by omega), hdb, own_keep hn (fun g hg hlt => K.block g hlt (by have := (hn.lt g hg).1; omega)), K.blk h.m (by omega), RdT.off h.r K (by omega), Kp.near h.k K hs (by omega)⟩
theorem EvS.put (h : EvS w W mb xb b y da dc na nc l) (hX : BlkAt W' xb 34 cs) (K : Kp xb W W') (hs : W'.heap.size = W.heap.size) (hc : cs = evC y' da y.m.deps.length dc na y.names.length nc) (h1 : y'.m.deps = y.m.deps) (h2 : y'.names = y.names) : EvS w W' mb xb b y' da dc na nc l := by
  refine h.putN hX K hs (by rw [h1, h2]; exact hc) (by rw [h1]; exact h.dr) (by rw [h1]; exact h.db) (by rw [h2]; exact h.nr)
theorem EvS.putM (h : EvS w W mb xb b y da dc na nc l) (hX : BlkAt W' xb 34 cs) (K : Kp xb W W') (hs : W'.heap.size = W.heap.size) (hc : cs = evC y' da' y'.m.deps.length dc' na y.names.length nc) (h2 : y'.names = y.names)
    (hd : Rd W 1 da' y'.m.deps.length dc' (c32 y'.m.deps)) (hdb : y'.m.deps.length ≠ 0 → ∀ g off, da' = some ⟨g, off, none⟩ → xb + 1 ≤ g) : EvS w W' mb xb b y' da' dc' na nc l := by
  refine h.putN hX K hs (by rw [h2]; exact hc) hd hdb (by rw [h2]; exact h.nr)
theorem Rd.keepB {size n c : Nat} {a : Option Addr} {xs : List Value} (h : Rd W size a n c xs) (hs : W.heap.size ≤ W'.heap.size) (hb : n ≠ 0 → ∀ g off, a = some ⟨g, off, none⟩ → W'.heap[g]? = W.heap[g]?) : Rd W' size a n c xs := by
  by_cases h0 : n = 0
  · exact ⟨h.1, .inl h0⟩
  · rcases h.2 with h1 | ⟨g, off, rfl, hlt, hc⟩
    · exact absurd h1 h0
    · refine ⟨h.1, .inr ⟨g, off, rfl, Nat.lt_of_lt_of_le hlt hs, fun j u hj => ?_⟩⟩
      rw [World.cell?_of_block (w := W) (hb h0 g off rfl)]
      exact hc j u hj
theorem RdT.lower {B : Nat} (h : RdT W b l) (k : Below B W W') (hb : b < B) : RdT W' b l := by
  obtain ⟨a, n, c, h1, h2, h3, h4, h5⟩ := h
  exact ⟨a, n, c, h1.below k hb, Rd.keepB h2 k.size (fun h0 g off e => k.block g (by have := h3 h0 g off e; omega)), h3, h4, h5⟩
/-- The row of names has grown. -/
theorem EvS.grown (h : EvS w W mb xb b y da dc na nc l) (g : W.grownBy W' (Value.slice na y.names.length nc).ownBlock) : Below (xb + 1) W W' :=
  (Below.refl (xb + 1) W).grown g (by have := h.bk.lt; omega) (fun k hk => (h.nr.lt k hk).1)
theorem EvS.app {t : TNm} {n : Nat} (h : EvS w W mb xb b y da dc na nc l) (hn : n = y.names.length) (hd0 : y.m.deps = []) (g : W.grownBy W' (Value.slice na y.names.length nc).ownBlock) (ho : W'.ownsRow (xb + 1) 96 2 (.slice na' (n + 1) nc') (n + 1) (y.names.flatMap nmC ++ nmC t)) :
    EvS w (W'.setCell ⟨xb, 17, none⟩ (.slice na' (n + 1) nc')) mb xb b { y with names := y.names ++ [t] } da dc na' nc' l := by
  obtain ⟨o1, o2, o3⟩ := h.ord
  have hB := h.grown g
  have hbk := h.bk.below hB (by omega)
  have hK : Kp xb W' (W'.setCell ⟨xb, 17, none⟩ (.slice na' (n + 1) nc')) := (Kp.refl _ _).setCell ⟨xb, 17, none⟩ rfl _
  have hl : (y.names ++ [t]).length = n + 1 := by rw [hn]; simp
  have hset : (evC y da y.m.deps.length dc na y.names.length nc).setIfInBounds 17 (.slice na' (n + 1) nc') = evC { y with names := y.names ++ [t] } da y.m.deps.length dc na' (n + 1) nc' := by kernel_rfl
  have hdr : ∀ W2 : World, Rd W2 1 da y.m.deps.length dc (c32 y.m.deps) := fun W2 => ⟨h.dr.1, .inl (by rw [hd0]; rfl)⟩
  have hkW : Kp b w W' := ⟨hB.os.trans h.k.os, hB.tape.trans h.k.tape, hB.output.trans h.k.output, Nat.le_trans h.k.size hB.size, fun i hi hne => (hB.block i (by omega)).trans (h.k.block i hi hne)⟩
  have hb0 := hbk.set 17 (.slice na' (n + 1) nc')
  rw [hset] at hb0
  refine ⟨h.ord, ?_, hdr _, h.db, ?_, hK.blk (h.m.below hB (by omega)) (by omega), RdT.off (h.r.lower hB (by omega)) hK (by omega), Kp.near hkW hK (by simp [World.setCell]) (by omega)⟩
  · show BlkAt _ xb 34 (evC _ da _ dc na' (y.names ++ [t]).length nc')
    rw [hl]
    exact hb0
  · show World.ownsRow _ (xb + 1) 96 2 (.slice na' (y.names ++ [t]).length nc') (y.names ++ [t]).length ((y.names ++ [t]).flatMap nmC)
    rw [hl, List.flatMap_append, show [t].flatMap nmC = nmC t from by simp]
    exact own_keep ho (fun g hg hlt => hK.block g hlt (by have := (ho.lt g hg).1; omega))
theorem EvS.fz (h : EvS w W mb xb b y da dc na nc l) (i : Nat) : W.frozen? ⟨xb, i, none⟩ = false := h.bk.fz i
theorem EvS.tl (h : EvS w W mb xb b y da dc na nc l) (hT : TL w) : TL W := hT.kp h.k h.r.b8
end
theorem takeN_le {m v : Nat} {l r : List W8} (h : takeN m l = some (v, r)) : r.length ≤ l.length := by
  cases l with
  | nil => cases h
  | cons u l =>
    rw [takeN_cons] at h
    cases e : valN u m with
    | none => rw [e] at h; cases h
    | some x => rw [e] at h; simp only [Option.map_some, Option.some.injEq, Prod.mk.injEq] at h; rw [← h.2]; simp
theorem takeT_le {f m : Nat} {v : Nat × Nat} {l r : List W8} (h : takeT f m l = some (v, r)) : r.length ≤ l.length := by
  cases l with
  | nil => cases h
  | cons u l =>
    rw [takeT_cons] at h
    cases e : twoN u f m with
    | none => rw [e] at h; cases h
    | some x => rw [e] at h; simp only [Option.map_some, Option.some.injEq, Prod.mk.injEq] at h; rw [← h.2]; simp
theorem takeV_le {v : Nat × TCf × Nat} {l r : List W8} (h : takeV l = some (v, r)) : r.length ≤ l.length := by
  unfold takeV at h
  cases e1 : takeN 18446744073709551615 l with
  | none => rw [e1] at h; cases h
  | some p =>
    rw [e1] at h
    obtain ⟨n, l1⟩ := p
    simp only [Option.bind_some] at h
    cases e2 : takeT 18446744073709551615 63 l1 with
    | none => rw [e2] at h; cases h
    | some q =>
      rw [e2] at h
      obtain ⟨c, l2⟩ := q
      simp only [Option.bind_some] at h
      cases e3 : takeN 18446744073709551615 l2 with
      | none => rw [e3] at h; cases h
      | some q3 =>
        rw [e3] at h
        obtain ⟨m, l3⟩ := q3
        simp only [Option.map_some, Option.some.injEq, Prod.mk.injEq] at h
        have h1 := takeN_le e1
        have h2 := takeT_le e2
        have h3 := takeN_le e3
        rw [← h.2]
        omega
end
end Go.Proofs.YtpkknhhohbobaaaGreatDoor
