/- text: what is printed and parsed, in plain Lean -/
import Derived.Test.YtpkknhhohbobaaaGreatDoorTxtA
namespace Go.Proofs.YtpkknhhohbobaaaGreatDoor
set_option linter.unusedSimpArgs false
set_option linter.unusedVariables false
open Go.RowKit
structure TCf where
  ep : Nat
  rp : Int
structure TMg where
  frm : Int
  seq : Nat
  stamp : Nat
  svc : Int
  deps : List Nat
  pay : W8
structure TNm where
  proc : Int
  inc : Nat
structure TEv where
  kind : Int
  proc : Int
  conf : TCf
  new : TCf
  mem : Nat
  m : TMg
  num : Nat
  vconf : TCf
  vmem : Nat
  names : List TNm
  state : W8
def TCf.zero : TCf := ⟨0, 0⟩
def TMg.zero : TMg := ⟨0, 0, 0, 0, [], []⟩
def TEv.zero : TEv := ⟨0, 0, .zero, .zero, 0, .zero, 0, .zero, 0, [], []⟩
/-- The letters of a row. -/
inductive Lt where
  | c | n | s | m | v | a | o | b
  deriving DecidableEq
def prOk (p : Int) : Bool := decide (0 ≤ p) && decide (p ≤ 63)
def prW (p : Int) : W8 := Lib.decDigits p.toNat
def confW (c : TCf) : W8 := Lib.decDigits c.ep ++ 46 :: prW c.rp
def nameW (n : TNm) : W8 := prW n.proc ++ 46 :: Lib.decDigits n.inc
/-- A digit of sixteen. -/
def hx (d : Nat) : UInt8 := if d < 10 then UInt8.ofNat (48 + d) else UInt8.ofNat (87 + d)
def hx2 (b : UInt8) : W8 := [hx (b.toNat / 16), hx (b.toNat % 16)]
def hexW (s : W8) : W8 := 120 :: s.flatMap hx2
def depsW (l : List Nat) : W8 := 100 :: Lib.join (l.map Lib.decDigits) [44]
def kindWs : List W8 := [[], [115, 101, 110, 100], [100, 101, 108, 105, 118, 101, 114], [114, 101, 103, 117, 108, 97, 114], [116, 114, 97, 110, 115], [115, 116, 97, 114, 116], [115, 116, 111, 112], [118, 105, 101, 119], [99, 97, 115, 116], [117, 112], [98, 108, 111, 99, 107], [114, 101, 97, 100, 121], [111, 117, 116]]
def kindW (k : Nat) : W8 := kindWs.getD k []
def rowL : Nat → List Lt
  | 1 => [.c, .m] | 2 => [.c, .n, .m] | 3 => [.c, .s] | 4 => [.c, .n, .s] | 7 => [.v, .a] | 8 => [.v, .o, .m] | 9 => [.v, .o, .m] | 10 => [.v, .o] | 11 => [.v, .o, .b] | 12 => [.v, .o] | _ => []
def msgW (m : TMg) : List W8 := [prW m.frm, Lib.decDigits m.seq, Lib.decDigits m.stamp, prW m.svc, depsW m.deps, hexW m.pay]
def fieldW (f : Lt) (x : TEv) : List W8 := match f with
  | .c => [confW x.conf] | .n => [confW x.new] | .s => [Lib.decDigits x.mem] | .m => msgW x.m
  | .v => [Lib.decDigits x.num, confW x.vconf, Lib.decDigits x.vmem] | .a => x.names.map nameW | .o => x.names.map nameW | .b => [hexW x.state]
def fieldOk (f : Lt) (x : TEv) : Bool := match f with
  | .c => prOk x.conf.rp | .n => prOk x.new.rp | .s => true | .m => prOk x.m.frm && prOk x.m.svc
  | .v => prOk x.vconf.rp | .a => x.names.all (fun n => prOk n.proc) | .o => decide (x.names.length = 1) && x.names.all (fun n => prOk n.proc) | .b => true
def evW (x : TEv) : List W8 := prW x.proc :: kindW x.kind.toNat :: (rowL x.kind.toNat).flatMap (fieldW · x)
def evOk (x : TEv) : Bool := prOk x.proc && (rowL x.kind.toNat).all (fieldOk · x)
def evE (x : TEv) : Int := if x.kind < 1 ∨ 12 < x.kind then 10 else if evOk x = true then 0 else 1
def lineW (x : TEv) : W8 := Lib.join (evW x) [32]
/-- A field, out of one event into another. -/
def setF (f : Lt) (x y : TEv) : TEv := match f with
  | .c => { y with conf := x.conf } | .n => { y with new := x.new } | .s => { y with mem := x.mem } | .m => { y with m := x.m }
  | .v => { y with num := x.num, vconf := x.vconf, vmem := x.vmem } | .a => { y with names := x.names } | .o => { y with names := x.names } | .b => { y with state := x.state }
def begE (k p : Int) : TEv := { TEv.zero with kind := k, proc := p }
def cleanE (x : TEv) : TEv := (rowL x.kind.toNat).foldl (fun y f => setF f x y) (begE x.kind x.proc)
/-- What an event's numbers are. -/
structure TEv.Wf (x : TEv) : Prop where
  cf : x.conf.ep < 18446744073709551616 ∧ x.new.ep < 18446744073709551616 ∧ x.vconf.ep < 18446744073709551616
  nu : x.mem < 18446744073709551616 ∧ x.num < 18446744073709551616 ∧ x.vmem < 18446744073709551616
  mg : x.m.seq < 4294967296 ∧ x.m.stamp < 18446744073709551616 ∧ ∀ d ∈ x.m.deps, d < 4294967296
  nm : ∀ n ∈ x.names, n.inc < 4294967296
-- what is parsed
def twoN (w : W8) (f s : Nat) : Option (Nat × Nat) := match pcs 46 w with
  | [a, b] => match valN a f, valN b s with
    | some x, some y => some (x, y)
    | _, _ => none
  | _ => none
def takeN (most : Nat) : List W8 → Option (Nat × List W8)
  | [] => none
  | w :: r => (valN w most).map (fun v => (v, r))
def takeT (f s : Nat) : List W8 → Option ((Nat × Nat) × List W8)
  | [] => none
  | w :: r => (twoN w f s).map (fun v => (v, r))
def nib (c : UInt8) : Option Nat := if 48 ≤ c.toNat ∧ c.toNat ≤ 57 then some (c.toNat - 48) else if 97 ≤ c.toNat ∧ c.toNat ≤ 102 then some (c.toNat - 87) else none
def unhex2 : W8 → Option W8
  | [] => some []
  | [_] => none
  | a :: b :: r => match nib a, nib b with
    | some x, some y => (unhex2 r).map (fun t => UInt8.ofNat (x * 16 + y) :: t)
    | _, _ => none
def unhex : W8 → Option W8
  | [] => none
  | x :: t => if x = 120 then unhex2 t else none
def takeB : List W8 → Option (W8 × List W8)
  | [] => none
  | w :: r => (unhex w).map (fun v => (v, r))
def mapO {α β : Type} (f : α → Option β) : List α → Option (List β)
  | [] => some []
  | x :: l => match f x, mapO f l with
    | some y, some m => some (y :: m)
    | _, _ => none
def depsN : W8 → Option (List Nat)
  | [] => none
  | x :: t => if x = 100 then (if t = [] then some [] else mapO (fun w => valN w 4294967295) (pcs 44 t)) else none
def takeD : List W8 → Option (List Nat × List W8)
  | [] => none
  | w :: r => (depsN w).map (fun v => (v, r))
def nmOf (v : Nat × Nat) : TNm := ⟨v.1, v.2⟩
def cfOf (v : Nat × Nat) : TCf := ⟨v.1, v.2⟩
def takeM (l : List W8) : Option (TMg × List W8) :=
  (takeN 63 l).bind fun (f, l) => (takeN 4294967295 l).bind fun (q, l) => (takeN 18446744073709551615 l).bind fun (st, l) => (takeN 63 l).bind fun (sv, l) => (takeD l).bind fun (d, l) => (takeB l).map fun (p, l) => (⟨f, q, st, sv, d, p⟩, l)
def takeV (l : List W8) : Option ((Nat × TCf × Nat) × List W8) :=
  (takeN 18446744073709551615 l).bind fun (n, l) => (takeT 18446744073709551615 63 l).bind fun (c, l) => (takeN 18446744073709551615 l).map fun (m, l) => ((n, cfOf c, m), l)
def fieldT (f : Lt) (x : TEv) (l : List W8) : Option (TEv × List W8) := match f with
  | .c => (takeT 18446744073709551615 63 l).map fun (c, l) => ({ x with conf := cfOf c }, l)
  | .n => (takeT 18446744073709551615 63 l).map fun (c, l) => ({ x with new := cfOf c }, l)
  | .s => (takeN 18446744073709551615 l).map fun (n, l) => ({ x with mem := n }, l)
  | .m => (takeM l).map fun (m, l) => ({ x with m := m }, l)
  | .v => (takeV l).map fun (v, l) => ({ x with num := v.1, vconf := v.2.1, vmem := v.2.2 }, l)
  | .a => (mapO (fun w => twoN w 63 4294967295) l).map fun ns => ({ x with names := ns.map nmOf }, [])
  | .o => (takeT 63 4294967295 l).map fun (n, l) => ({ x with names := [nmOf n] }, l)
  | .b => (takeB l).map fun (s, l) => ({ x with state := s }, l)
def rowT : List Lt → TEv → List W8 → Option (TEv × List W8)
  | [], x, l => some (x, l)
  | f :: r, x, l => (fieldT f x l).bind fun (y, l) => rowT r y l
/-- The kind of a word; 0: none. -/
def kindN (w : W8) : Nat := if w = [] then 0 else (kindWs.findIdx? (· == w)).getD 0
def parseW : List W8 → Option TEv
  | p :: k :: r => match valN p 63 with
    | some p => if kindN k = 0 then none else match rowT (rowL (kindN k)) (begE (kindN k) p) r with
      | some (y, []) => some y
      | _ => none
    | none => none
  | _ => none
def parseL (s : W8) : Option TEv := parseW (pcs 32 s)
end Go.Proofs.YtpkknhhohbobaaaGreatDoor
