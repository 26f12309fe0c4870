/- a struct stored into a part of a block that is known whole; a part of it loaded -/
import Derived.Test.YtpkknhhohbobaaaGreatDoorBlk
import Derived.Deep.MidRow
namespace Go.Proofs.YtpkknhhohbobaaaGreatDoor
set_option linter.unusedSimpArgs false
set_option linter.unusedVariables false
open Go.RowKit

/-- The cells with vs from o on. -/
def setArr : Array Value → Nat → List Value → Array Value
  | cs, _, [] => cs
  | cs, o, v :: r => setArr (cs.setIfInBounds o v) (o + 1) r
section
variable {w : World} {b : Nat} {t : TypeId}
theorem setArr_size : ∀ (vs : List Value) (o : Nat) (cs : Array Value), (setArr cs o vs).size = cs.size
  | [], _, _ => rfl
  | v :: r, o, cs => by rw [setArr, setArr_size r]; simp
theorem BlkAt.setCells : ∀ (vs : List Value) (o : Nat) (w : World) (cs : Array Value), BlkAt w b t cs → BlkAt (w.setCells b o vs) b t (setArr cs o vs)
  | [], _, _, _, h => h
  | v :: r, o, w, cs, h => BlkAt.setCells r (o + 1) _ _ (h.set o v)
theorem Kp.setCells {x : World} : ∀ (vs : List Value) (o : Nat) (w : World), Kp b x w → Kp b x (w.setCells b o vs)
  | [], _, _, h => h
  | v :: r, o, w, h => Kp.setCells r (o + 1) _ (h.setCell ⟨b, o, none⟩ rfl v)
theorem setCells_size : ∀ (vs : List Value) (o : Nat) (w : World), (w.setCells b o vs).heap.size = w.heap.size
  | [], _, _ => rfl
  | v :: r, o, w => by rw [World.setCells, setCells_size r]; simp [World.setCell]
theorem BlkAt.there {cs : Array Value} (h : BlkAt w b t cs) {o n : Nat} (hn : o + n ≤ cs.size) : w.there b o n := fun j hj =>
  ⟨by rw [h.cell (i := o + j) (Array.getElem?_eq_getElem (by omega))]; rfl, h.fz _⟩
theorem BlkAt.range {cs : Array Value} (h : BlkAt w b t cs) {o : Nat} {vs : List Value} (hv : ∀ j v, vs[j]? = some v → cs[o + j]? = some v) : w.rangeAt b o vs := fun j v hj => h.cell (hv j v hj)
end
section
variable {P : Program} {w : World} {ops : Array Oper} {rest : List Oper} {o : Oper} {a : Act} {Q : Exit → Act → World → Prop} {t : TypeId}
theorem wpList_blk_put (hg : o.guard = none) (x y : Operand) (ho : o.op = .store t x y) {b p : Nat} (hx : a.eval x = .pointer (some ⟨b, p, none⟩)) {t' : TypeId} {old cs : Array Value} (hy : a.eval y = .agg cs) (hb : BlkAt w b t' old)
    (hi : (P.info? t).map (·.size) = some cs.size) (hs : p + cs.size ≤ old.size) (h1 : cs.all (·.oneCell') = true)
    (h : ∀ w', BlkAt w' b t' (setArr old p cs.toList) → Kp b w w' → w'.heap.size = w.heap.size → wpList P ops Q rest (a.put o.dst undef) w') : wpList P ops Q (o :: rest) a w :=
  wpList_store_mid hg t x y ho b p cs hx hy (hb.there hs) hi h1 (h _ (hb.setCells _ _ _) (Kp.setCells _ _ _ (Kp.refl _ _)) (setCells_size _ _ _))
theorem wpList_blk_get (hg : o.guard = none) (x : Operand) (ho : o.op = .load t x) {b p : Nat} (hx : a.eval x = .pointer (some ⟨b, p, none⟩)) {t' : TypeId} {old cs : Array Value} (hb : BlkAt w b t' old) {d : TypeDesc}
    (hu : P.underlying t = some d) (hd : d.isRow = true) (hi : (P.info? t).map (·.size) = some cs.size) (hv : ∀ j v, cs.toList[j]? = some v → old[p + j]? = some v)
    (h : wpList P ops Q rest (a.put o.dst (.agg cs)) w) : wpList P ops Q (o :: rest) a w :=
  wpList_load_mid hg t x ho b p hx cs.toList d (hb.range hv) hu hd (by simpa using hi) h
end
end Go.Proofs.YtpkknhhohbobaaaGreatDoor
