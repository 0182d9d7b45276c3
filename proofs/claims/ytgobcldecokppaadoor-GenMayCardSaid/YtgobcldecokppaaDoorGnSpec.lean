/- gen: what code a function's statements come to, as plain functions. -/
import Derived.Test.YtgobcldecokppaaDoorNmFine
namespace Go.Proofs.YtgobcldecokppaaDoor
open Go.RowKit Go.Maps

/-- Where a variable is. -/
structure Plc where
  reg : Int
  off : Int
  size : Int
  deriving DecidableEq, Inhabited
abbrev GEnv := ByteArray → Plc
def gw64 (z : Int) : Int := wrap64 z
def noPlc : Plc := ⟨0, 0, 0⟩
def GEnv.put (V : GEnv) (s : ByteArray) (p : Plc) : GEnv := fun i => if i = s then p else V i
/-- Names are taken out. -/
def GEnv.del (V : GEnv) : List ByteArray → GEnv
  | [] => V
  | s :: l => GEnv.del (GEnv.put V s noPlc) l
/-- Code that is laid from a place on, into a register. -/
abbrev Gn := Nat → Int → List Ins
def gnCall : List Gn → Nat → Int → List Ins
  | [], _, _ => []
  | f :: fs, p, t => f p t ++ gnCall fs (p + (f p t).length) (t + 1)
def gnTwo (k t : Int) : List Ins :=
  (if k = 7 then [⟨3, t, t, t + 1, 0⟩] else if k = 8 then [⟨4, t, t, t + 1, 0⟩] else if k = 9 then [⟨5, t, t, t + 1, 0⟩] else if k = 10 then [⟨6, t, t, t + 1, 0⟩] else if k = 11 then [⟨7, t, t, t + 1, 0⟩] else
    if k = 12 ∨ k = 13 then [⟨9, t, t, t + 1, 0⟩] else if k = 14 ∨ k = 17 then [⟨8, t, t, t + 1, 0⟩] else [⟨8, t, t + 1, t, 0⟩]) ++
  (if k = 13 ∨ k = 17 ∨ k = 15 then [⟨10, t, t, 0, 0⟩] else [])
def gnBit (t : Int) : List Ins := [⟨10, t, t, 0, 0⟩, ⟨10, t, t, 0, 0⟩]
/-- An expression of kind k, its arguments' code being given. -/
def gnOf (V : GEnv) (F : ByteArray → Int) (k n : Int) (s : ByteArray) (fs : List Gn) : Gn := fun p t =>
  let a := fs.getD 0 (fun _ _ => [])
  let b := fs.getD 1 (fun _ _ => [])
  let c := fs.getD 2 (fun _ _ => [])
  if k = 1 then [⟨1, t, 0, 0, n⟩]
  else if k = 2 then [⟨2, t, (V s).reg, 0, 0⟩]
  else if k = 3 then a p t ++ [⟨13, t, 0, 0, (V s).size⟩, ⟨11, t, t, 0, (V s).off⟩]
  else if k = 4 then gnCall fs p t ++ [⟨19, t, t, 0, F s⟩]
  else if k = 5 then a p t ++ [⟨1, t + 1, 0, 0, 0⟩, ⟨4, t, t + 1, t, 0⟩]
  else if k = 6 then a p t ++ [⟨10, t, t, 0, 0⟩]
  else if k = 18 then
    let p1 := p + (a p t).length + 1
    a p t ++ [⟨16, t, 0, 0, ((p1 + (b p1 t).length + 2 : Nat) : Int)⟩] ++ b p1 t ++ gnBit t
  else if k = 19 then
    let p1 := p + (a p t).length + 3
    a p t ++ gnBit t ++ [⟨15, t, 0, 0, ((p1 + (b p1 t).length + 2 : Nat) : Int)⟩] ++ b p1 t ++ gnBit t
  else if k = 20 then
    let p1 := p + (a p t).length + 1
    let p2 := p1 + (b p1 t).length + 1
    a p t ++ [⟨16, t, 0, 0, (p2 : Int)⟩] ++ b p1 t ++ [⟨14, 0, 0, 0, ((p2 + (c p2 t).length : Nat) : Int)⟩] ++ c p2 t
  else
    let p1 := p + (a p t).length
    a p t ++ b p1 (t + 1) ++ gnTwo k t
mutual
def Ex.gn (V : GEnv) (F : ByteArray → Int) : Ex → Gn
  | .mk k n s l => gnOf V F k n s (Ex.gns V F l)
def Ex.gns (V : GEnv) (F : ByteArray → Int) : List Ex → List Gn
  | [] => []
  | x :: l => Ex.gn V F x :: Ex.gns V F l
end
/-- What a list of statements lays down: code (a break that waits leads to 0), the breaks' places, the words so far, what is known behind it. -/
structure GOut where
  code : List Ins
  brk : List Nat
  words : Int
  V : GEnv
/-- The instructions at some places lead to v. -/
def patchAt (l : List Ins) (p : Nat) (at_ : List Nat) (v : Int) : List Ins := at_.foldl (fun l i => l.modify (i - p) fun x => { x with n := v }) l
/-- A statement that makes nothing known behind it, its parts being given: the first free register is n, the place p. -/
def gnSt (V : GEnv) (F : ByteArray → Int) (k : Int) (s : ByteArray) (a b : Ex) (body : GEnv → Int → Nat → Int → GOut) (els : GEnv → Int → Nat → Int → GOut) (noEls : Bool) (cases : GEnv → Int → Nat → Int → GOut × List Nat) (wd : Int) (p : Nat) (n : Int) : GOut :=
  let ca := a.gn V F p n
  let p1 := p + ca.length
  if k = 7 then
    let cb := b.gn V F p1 (n + 1)
    let head := p1 + cb.length
    let o := body (V.put s ⟨n, 0, 0⟩) wd (head + 1) (n + 2)
    let e := head + 1 + o.code.length + 1
    ⟨ca ++ cb ++ [⟨17, n, n + 1, 0, (e : Int)⟩] ++ patchAt o.code (head + 1) o.brk e ++ [⟨18, n, 0, 0, (head : Int)⟩], [], o.words, o.V.put s noPlc⟩
  else if k = 8 then ⟨[⟨14, 0, 0, 0, 0⟩], [p], wd, V⟩
  else if k = 3 then ⟨ca ++ [⟨2, (V s).reg, n, 0, 0⟩], [], wd, V⟩
  else if k = 4 then
    let cb := b.gn V F (p1 + 1) (n + 1)
    ⟨ca ++ [⟨13, n, 0, 0, (V s).size⟩] ++ cb ++ [⟨12, n + 1, n, 0, (V s).off⟩], [], wd, V⟩
  else if k = 5 then
    let o := body V wd (p1 + 1) n
    let p2 := p1 + 1 + o.code.length
    let p3 := if noEls then p2 else p2 + 1
    let o2 := els o.V o.words p3 n
    let e := p3 + o2.code.length
    ⟨ca ++ [⟨16, n, 0, 0, (p3 : Int)⟩] ++ o.code ++ (if noEls then [] else [⟨14, 0, 0, 0, (e : Int)⟩]) ++ o2.code, o.brk ++ o2.brk, o2.words, o2.V⟩
  else if k = 6 then
    let o := cases V wd p1 n
    let p2 := p1 + o.1.code.length
    let o2 := els o.1.V o.1.words p2 n
    let e := p2 + o2.code.length
    ⟨ca ++ patchAt o.1.code p1 o.2 e ++ o2.code, o.1.brk ++ o2.brk, o2.words, o2.V⟩
  else if k = 9 then ⟨ca ++ [⟨0, n, 0, 0, 0⟩], [], wd, V⟩
  else ⟨ca, [], wd, V⟩
mutual
def St.gn (F : ByteArray → Int) : St → GEnv → Int → Nat → Int → GOut
  | .mk k s _ a b body els cases => fun V wd p n => gnSt V F k s a b (fun V wd p n => St.gns F body V wd p n []) (fun V wd p n => St.gns F els V wd p n []) els.isEmpty (Cs.gns F cases) wd p n
/-- A list; ns are the names that it has made known so far. -/
def St.gns (F : ByteArray → Int) : List St → GEnv → Int → Nat → Int → List ByteArray → GOut
  | [] => fun V wd _ _ ns => ⟨[], [], wd, V.del ns⟩
  | x :: l => fun V wd p n ns =>
    if x.kind = 1 then
      let c := x.a.gn V F p n
      let o := St.gns F l (V.put x.name ⟨n, 0, 0⟩) wd (p + c.length) (n + 1) (ns ++ [x.name])
      ⟨c ++ o.code, o.brk, o.words, o.V⟩
    else if x.kind = 2 then
      St.gns F l (V.put x.name ⟨0, wd, x.n⟩) (gw64 (wd + x.n)) p n (ns ++ [x.name])
    else
      let o := St.gn F x V wd p n
      let o2 := St.gns F l o.V o.words (p + o.code.length) n ns
      ⟨o.code ++ o2.code, o.brk ++ o2.brk, o2.words, o2.V⟩
/-- A switch's cases: their jumps to its end are told by their places. -/
def Cs.gns (F : ByteArray → Int) : List Cs → GEnv → Int → Nat → Int → GOut × List Nat
  | [] => fun V wd _ _ => (⟨[], [], wd, V⟩, [])
  | x :: l => fun V wd p n =>
    let o := Cs.gn F x V wd (p + 3) n
    let nx := p + 3 + o.code.length + 1
    let o2 := Cs.gns F l o.V o.words nx n
    (⟨[⟨1, n + 1, 0, 0, x.n⟩, ⟨9, n + 1, n, n + 1, 0⟩, ⟨16, n + 1, 0, 0, (nx : Int)⟩] ++ o.code ++ [⟨14, 0, 0, 0, 0⟩] ++ o2.1.code, o.brk ++ o2.1.brk, o2.1.words, o2.1.V⟩, (p + 3 + o.code.length) :: o2.2)
def Cs.gn (F : ByteArray → Int) : Cs → GEnv → Int → Nat → Int → GOut
  | .mk _ body => fun V wd p n => St.gns F body V wd p n []
end
/-- The registers that code names: with those that there were before. -/
def useR (r : Int) (l : List Int) : Int := l.foldl (fun r x => if x + 1 > r then x + 1 else r) r
def regsOf (r : Int) (l : List Ins) : Int := l.foldl (fun r x => useR r [x.a, x.b, x.c]) r
end Go.Proofs.YtgobcldecokppaaDoor
