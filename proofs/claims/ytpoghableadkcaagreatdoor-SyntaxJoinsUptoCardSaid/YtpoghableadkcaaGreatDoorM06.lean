/- Syn, Par, Par2, Par3, joined. -/
import Derived.Test.YtpoghableadkcaaGreatDoorM01
import Derived.Test.YtpoghableadkcaaGreatDoorM04
import Derived.Test.YtpoghableadkcaaGreatDoorM03
import Derived.Lib.Hide
import Derived.BigQuiet
import Derived.Deep.QuietTactic
import Derived.RegionDies
import Derived.Deep.RegionHeld3
section
/- The parser as functions on lists of words: no program in sight. -/
namespace Go.Proofs.YtpoghableadkcaaGreatDoor
set_option linter.unusedVariables false

mutual
inductive Ast where
  | mk (kind : Nat) (n : Int) (name label : Bs) (names : List Bs) (index : List Ast) (has : List Bool) (kids : List Ast) (args : List Arg)
inductive Arg where
  | mk (m any : Bool) (e : Ast)
end
/-- A variable. -/
structure Rf where
  names : List Bs
  index : List Ast
  has : List Bool
structure DVar where
  name : Bs
  array : Bool
  size : Ast
  init : Bool
  e : Ast
  chan : Bool
  fields : List Nat
structure Dcl where
  type : Int
  named : Bs
  vars : List DVar
  at_ : Nat
inductive Stm where
  | mk (kind at_ : Nat) (name text : Bs) (n : Int) (sorted random keep : Bool) (ref : Rf) (e : Ast) (es : List Ast) (args : List Arg) (decl : Dcl) (opts : List (List Stm)) (body : List Stm)
structure Unt where
  kind : Nat
  at_ : Nat
  name : Bs
  text : Bs
  names : List Bs
  active : Bool
  count : Ast
  decl : Dcl
  decls : List Dcl
  body : List Stm

def Ast.zero : Ast := .mk 0 0 [] [] [] [] [] [] []
def Rf.zero : Rf := ⟨[], [], []⟩
def Dcl.zero : Dcl := ⟨0, [], [], 0⟩
def Ast.num (n : Int) : Ast := .mk 1 n [] [] [] [] [] [] []
def Ast.ofRef (r : Rf) : Ast := .mk 2 0 [] [] r.names r.index r.has [] []
def Ast.una (op : Bs) (a : Ast) : Ast := .mk 3 0 op [] [] [] [] [a] []
def Ast.bin (op : Bs) (a b : Ast) : Ast := .mk 4 0 op [] [] [] [] [a, b] []
def Ast.cond (a b c : Ast) : Ast := .mk 5 0 [] [] [] [] [] [a, b, c] []
def Ast.len (op : Bs) (r : Rf) : Ast := .mk 6 0 op [] r.names r.index r.has [] []
def Ast.poll (op : Bs) (r : Rf) (l : List Arg) : Ast := .mk 7 0 op [] r.names r.index r.has [] l
def Ast.run (n : Bs) (l : List Ast) : Ast := .mk 8 0 n [] [] [] [] l []
def Ast.atP (n label : Bs) (l : List Ast) : Ast := .mk 9 0 n label [] [] [] l []
def Ast.word (op : Bs) : Ast := .mk 10 0 op [] [] [] [] [] []

/-- A text and its words. -/
structure Env where
  S : Bs
  L : List Tk

/-- What is read: nothing yet (no fuel), a mishap, or a thing and the next word's number. -/
inductive R (A : Type) where
  | out
  | bad (c a : Nat)
  | ok (a : A) (i : Nat)

def R.bd {A B : Type} (r : R A) (f : A → Nat → R B) : R B :=
  match r with
  | .out => .out
  | .bad c a => .bad c a
  | .ok a i => f a i

section
variable (E : Env)
def kindAt (i : Nat) : Nat := match E.L[i]? with | some t => t.kind | none => 0
def textAt (i : Nat) : Bs := match E.L[i]? with | some t => t.text | none => []
def numAt (i : Nat) : Nat := match E.L[i]? with | some t => t.num | none => 0
def placeAt (i : Nat) : Nat := match E.L[i]? with | some t => t.at_ | none => E.S.length
def sees (i : Nat) (l : List Bs) : Bool := kindAt E i == 4 && l.contains (textAt E i)
def wrong {A : Type} (i : Nat) : R A := match E.L[i]? with | some t => .bad 30 t.at_ | none => .bad 21 E.S.length
def need (s : Bs) (i : Nat) : R Unit := if sees E i [s] then .ok () (i + 1) else wrong E i
def pid (i : Nat) : R Bs := if kindAt E i = 1 then .ok (textAt E i) (i + 1) else wrong E i
def kindsL : List Bs := [[], [98, 105, 116], [98, 111, 111, 108], [98, 121, 116, 101], [115, 104, 111, 114, 116], [105, 110, 116], [109, 116, 121, 112, 101], [112, 105, 100], [99, 104, 97, 110]]
/-- The type that the next word names; 0: none. -/
def kindOf (i : Nat) : Nat := if kindAt E i = 4 then (let k := kindsL.findIdx (fun s => s == textAt E i); if k < 9 then k else 0) else 0
def levelsL : List (List Bs) := [[[124, 124]], [[38, 38]], [[124]], [[94]], [[38]], [[61, 61], [33, 61]], [[60], [60, 61], [62], [62, 61]], [[60, 60], [62, 62]], [[43], [45]], [[42], [47], [37]]]
/-- The level of the operator of two that comes next, from 1 on; 0: there is none. -/
def levAt (i : Nat) : Nat := let k := levelsL.findIdx (fun l => sees E i l); if k < 10 then k + 1 else 0

/-- One thing more behind each comma. -/
def commas {A : Type} (one : Nat → R A) : Nat → Nat → R (List A)
  | 0, _ => .out
  | g + 1, i => if sees E i [[44]] then (one (i + 1)).bd fun a j => (commas one g j).bd fun l k => .ok (a :: l) k else .ok [] i
def many {A : Type} (one : Nat → R A) (g i : Nat) : R (List A) := (one i).bd fun a j => (commas E one g j).bd fun l k => .ok (a :: l) k
def within {A : Type} (one : Nat → R A) (g i : Nat) : R (List A) :=
  (need E [40] i).bd fun _ j => if sees E j [[41]] then .ok [] (j + 1) else (many E one g j).bd fun l k => (need E [41] k).bd fun _ m => .ok l m
def message {A : Type} (one : Nat → R A) (g i : Nat) : R (List A) :=
  (one i).bd fun a j =>
    if sees E j [[40]] then (many E one g (j + 1)).bd fun l k => (need E [41] k).bd fun _ m => .ok (a :: l) m
    else (commas E one g j).bd fun l k => .ok (a :: l) k

mutual
def expr : Nat → Nat → Nat → R Ast
  | 0, _, _ => .out
  | f + 1, lvl, i => (unary f i).bd fun a j => exprGo f lvl a j
def exprGo : Nat → Nat → Ast → Nat → R Ast
  | 0, _, _, _ => .out
  | f + 1, lvl, a, i => if lvl < levAt E i then (expr f (levAt E i) (i + 1)).bd fun b j => exprGo f lvl (.bin (textAt E i) a b) j else .ok a i
def unary : Nat → Nat → R Ast
  | 0, _ => .out
  | f + 1, i =>
    if sees E i [[33], [126], [45]] then (unary f (i + 1)).bd fun a j => .ok (.una (textAt E i) a) j
    else if sees E i [[40]] then bracket f (i + 1)
    else primary f i
def bracket : Nat → Nat → R Ast
  | 0, _ => .out
  | f + 1, i => (expr f 0 i).bd fun a j => if sees E j [[45, 62]] then (choice f a (j + 1)).bd fun b k => (need E [41] k).bd fun _ m => .ok b m else (need E [41] j).bd fun _ m => .ok a m
def choice : Nat → Ast → Nat → R Ast
  | 0, _, _ => .out
  | f + 1, a, i => (expr f 0 i).bd fun b j => (need E [58] j).bd fun _ k => (expr f 0 k).bd fun c m => .ok (.cond a b c) m
def primary : Nat → Nat → R Ast
  | 0, _ => .out
  | f + 1, i =>
    if kindAt E i = 2 then .ok (.num (numAt E i)) (i + 1)
    else if kindAt E i = 1 then named f i
    else if sees E i [[116, 114, 117, 101]] then .ok (.num 1) (i + 1)
    else if sees E i [[102, 97, 108, 115, 101]] then .ok (.num 0) (i + 1)
    else if sees E i [[114, 117, 110]] then (pid E (i + 1)).bd fun n j => (within E (fun k => expr f 0 k) f j).bd fun l k => .ok (.run n l) k
    else if sees E i [[116, 105, 109, 101, 111, 117, 116], [110, 112, 95], [95, 112, 105, 100], [95, 110, 114, 95, 112, 114]] then .ok (.word (textAt E i)) (i + 1)
    else if sees E i [[108, 101, 110], [102, 117, 108, 108], [101, 109, 112, 116, 121], [110, 102, 117, 108, 108], [110, 101, 109, 112, 116, 121]] then (need E [40] (i + 1)).bd fun _ j => (ref f j).bd fun r k => (need E [41] k).bd fun _ m => .ok (.len (textAt E i) r) m
    else wrong E i
def named : Nat → Nat → R Ast
  | 0, _ => .out
  | f + 1, i => (ref f i).bd fun r j =>
    if sees E j [[64]] && decide (r.names.length = 1) && (r.has.head?.getD false) then (pid E (j + 1)).bd fun l k => .ok (.atP (r.names.head?.getD []) l r.index) k
    else if sees E j [[63], [63, 63]] && sees E (j + 1) [[91]] then (message E (fun k => arg f k) f (j + 2)).bd fun l k => (need E [93] k).bd fun _ m => .ok (.poll (textAt E j) r l) m
    else .ok (.ofRef r) j
def ref : Nat → Nat → R Rf
  | 0, _ => .out
  | f + 1, i => (pid E i).bd fun n j =>
    (if sees E j [[91]] then (expr f 0 (j + 1)).bd fun a k => (need E [93] k).bd fun _ m => R.ok (a, true) m else R.ok (Ast.zero, false) j).bd fun p k =>
    if sees E k [[46]] then (ref f (k + 1)).bd fun r m => .ok ⟨n :: r.names, p.1 :: r.index, p.2 :: r.has⟩ m else .ok ⟨[n], [p.1], [p.2]⟩ k
def arg : Nat → Nat → R Arg
  | 0, _ => .out
  | f + 1, i =>
    if sees E i [[95]] then .ok (.mk false true .zero) (i + 1)
    else if sees E i [[101, 118, 97, 108]] then (need E [40] (i + 1)).bd fun _ j => (expr f 0 j).bd fun a k => (need E [41] k).bd fun _ m => .ok (.mk true false a) m
    else if kindAt E i = 1 then (ref f i).bd fun r j => .ok (.mk false false (.ofRef r)) j
    else if decide (kindAt E i = 2) || sees E i [[45], [116, 114, 117, 101], [102, 97, 108, 115, 101]] then (unary f i).bd fun a j => .ok (.mk true false a) j
    else wrong E i
end

/-- Fields of a channel. -/
def field (i : Nat) : R Nat := if kindOf E i = 0 then wrong E i else .ok (kindOf E i) (i + 1)
def ivar (f i : Nat) : R DVar :=
  (pid E i).bd fun n j =>
  (if sees E j [[91]] then (expr E f 0 (j + 1)).bd fun a k => (need E [93] k).bd fun _ m => R.ok (a, true) m else R.ok (Ast.zero, false) j).bd fun p k =>
  if sees E k [[61]] then
    if sees E (k + 1) [[91]] then
      (expr E f 0 (k + 2)).bd fun e m => (need E [93] m).bd fun _ m => (need E [111, 102] m).bd fun _ m => (need E [123] m).bd fun _ m =>
      (many E (field E) f m).bd fun l m => (need E [125] m).bd fun _ m => .ok ⟨n, p.2, p.1, false, e, true, l⟩ m
    else (expr E f 0 (k + 1)).bd fun e m => .ok ⟨n, p.2, p.1, true, e, false, []⟩ m
  else .ok ⟨n, p.2, p.1, false, .zero, false, []⟩ k
def decl (f i : Nat) : R Dcl :=
  if 0 < kindOf E i then (many E (ivar E f) f (i + 1)).bd fun l j => .ok ⟨kindOf E i, [], l, placeAt E i⟩ j
  else (pid E i).bd fun n j => (many E (ivar E f) f j).bd fun l k => .ok ⟨-1, n, l, placeAt E i⟩ k
/-- Over semicolons. -/
def semis : Nat → Nat → Nat
  | 0, i => i
  | g + 1, i => if sees E i [[59]] then semis g (i + 1) else i
def decls (f : Nat) (stop : Bs) : Nat → Nat → R (List Dcl)
  | 0, _ => .out
  | g + 1, i => (decl E f i).bd fun d j =>
    if !sees E j [[59]] || sees E (semis E E.L.length j) [stop] then .ok [d] (semis E E.L.length j)
    else (decls f stop g (semis E E.L.length j)).bd fun l k => .ok (d :: l) k
/-- Over semicolons and arrows. -/
def seps : Nat → Nat → Nat
  | 0, i => i
  | g + 1, i => if sees E i [[59], [45, 62]] then seps g (i + 1) else i

def Stm.at0 (k at_ : Nat) : Stm := .mk k at_ [] [] 0 false false false .zero .zero [] [] .zero [] []
def Stm.e1 (k at_ : Nat) (e : Ast) : Stm := .mk k at_ [] [] 0 false false false .zero e [] [] .zero [] []
def Stm.nam (k at_ : Nat) (n : Bs) : Stm := .mk k at_ n [] 0 false false false .zero .zero [] [] .zero [] []
def Stm.bod (k at_ : Nat) (n : Bs) (l : List Stm) : Stm := .mk k at_ n [] 0 false false false .zero .zero [] [] .zero [] l
def Stm.opt (k at_ : Nat) (l : List (List Stm)) : Stm := .mk k at_ [] [] 0 false false false .zero .zero [] [] .zero l []

/-- What begins with a variable, perhaps, or an expression; it stands at place a. -/
def simple (f a i : Nat) : R Stm :=
  let plain : R Stm := (expr E f 0 i).bd fun e j => .ok (.e1 2 a e) j
  if kindAt E i = 1 then (ref E f i).bd fun r j =>
    if sees E j [[61]] then (expr E f 0 (j + 1)).bd fun e k => .ok (.mk 3 a [] [] 0 false false false r e [] [] .zero [] []) k
    else if sees E j [[43, 43]] then .ok (.mk 4 a [] [] 1 false false false r .zero [] [] .zero [] []) (j + 1)
    else if sees E j [[45, 45]] then .ok (.mk 4 a [] [] (-1) false false false r .zero [] [] .zero [] []) (j + 1)
    else if sees E j [[33], [33, 33]] then (message E (expr E f 0) f (j + 1)).bd fun l k => .ok (.mk 5 a [] [] 0 (sees E j [[33, 33]]) false false r .zero l [] .zero [] []) k
    else if sees E j [[63], [63, 63]] && !sees E (j + 1) [[91]] then
      if sees E (j + 1) [[60]] then (message E (arg E f) f (j + 2)).bd fun l k => (need E [62] k).bd fun _ m => .ok (.mk 6 a [] [] 0 false (sees E j [[63, 63]]) true r .zero [] l .zero [] []) m
      else (message E (arg E f) f (j + 1)).bd fun l k => .ok (.mk 6 a [] [] 0 false (sees E j [[63, 63]]) false r .zero [] l .zero [] []) k
    else plain
  else plain

mutual
def stmt : Nat → Nat → R Stm
  | 0, _ => .out
  | f + 1, i =>
    if decide (kindAt E i = 1) && sees E (i + 1) [[58]] then (stmt f (i + 2)).bd fun s j => .ok (.bod 11 (placeAt E i) (textAt E i) [s]) j
    else if sees E i [[123]] then (body f i).bd fun l j => .ok (.bod 14 (placeAt E i) [] l) j
    else if sees E i [[97, 116, 111, 109, 105, 99]] then (body f (i + 1)).bd fun l j => .ok (.bod 12 (placeAt E i) [] l) j
    else if sees E i [[100, 95, 115, 116, 101, 112]] then (body f (i + 1)).bd fun l j => .ok (.bod 13 (placeAt E i) [] l) j
    else if sees E i [[105, 102]] then (options f [102, 105] (i + 1)).bd fun l j => .ok (.opt 7 (placeAt E i) l) j
    else if sees E i [[100, 111]] then (options f [111, 100] (i + 1)).bd fun l j => .ok (.opt 8 (placeAt E i) l) j
    else if sees E i [[98, 114, 101, 97, 107]] then .ok (.at0 9 (placeAt E i)) (i + 1)
    else if sees E i [[115, 107, 105, 112]] then .ok (.at0 19 (placeAt E i)) (i + 1)
    else if sees E i [[101, 108, 115, 101]] then .ok (.at0 20 (placeAt E i)) (i + 1)
    else if sees E i [[103, 111, 116, 111]] then (pid E (i + 1)).bd fun n j => .ok (.nam 10 (placeAt E i) n) j
    else if sees E i [[97, 115, 115, 101, 114, 116]] then (need E [40] (i + 1)).bd fun _ j => (expr E f 0 j).bd fun e k => (need E [41] k).bd fun _ m => .ok (.e1 16 (placeAt E i) e) m
    else if sees E i [[112, 114, 105, 110, 116, 102]] then (need E [40] (i + 1)).bd fun _ j =>
      if kindAt E j = 3 then
        (if sees E (j + 1) [[44]] then many E (expr E f 0) f (j + 2) else R.ok [] (j + 1)).bd fun l k => (need E [41] k).bd fun _ m =>
          .ok (.mk 17 (placeAt E i) [] (textAt E j) 0 false false false .zero .zero l [] .zero [] []) m
      else wrong E j
    else if decide (kindAt E i = 1) && sees E (i + 1) [[40]] then (within E (expr E f 0) f (i + 1)).bd fun l j => .ok (.mk 18 (placeAt E i) (textAt E i) [] 0 false false false .zero .zero l [] .zero [] []) j
    else simple E f (placeAt E i) i
def body : Nat → Nat → R (List Stm)
  | 0, _ => .out
  | f + 1, i => (need E [123] i).bd fun _ j => (sequence f j).bd fun l k => (need E [125] k).bd fun _ m => .ok l m
def sequence : Nat → Nat → R (List Stm)
  | 0, _ => .out
  | f + 1, i => (step f i).bd fun s j =>
    if sees E (seps E E.L.length j) [[125], [58, 58], [102, 105], [111, 100]] then .ok [s] (seps E E.L.length j)
    else if sees E (j - 1) [[125], [102, 105], [111, 100]] || sees E j [[59], [45, 62]] then (sequence f (seps E E.L.length j)).bd fun l k => .ok (s :: l) k
    else wrong E (seps E E.L.length j)
def step : Nat → Nat → R Stm
  | 0, _ => .out
  | f + 1, i =>
    if decide (0 < kindOf E i) || (decide (kindAt E i = 1) && decide (kindAt E (i + 1) = 1)) then (decl E f i).bd fun d j => .ok (.mk 1 (placeAt E i) [] [] 0 false false false .zero .zero [] [] d [] []) j
    else (stmt f i).bd fun s j => if sees E j [[117, 110, 108, 101, 115, 115]] then (stmt f (j + 1)).bd fun t k => .ok (.bod 15 (placeAt E i) [] [s, t]) k else .ok s j
def options : Nat → Bs → Nat → R (List (List Stm))
  | 0, _, _ => .out
  | f + 1, stop, i => (need E [58, 58] i).bd fun _ j => (sequence f j).bd fun l k =>
    if sees E k [stop] then .ok [l] (k + 1) else (options f stop k).bd fun r m => .ok (l :: r) m
end

/-- Up to the brace that closes. -/
def braces : Nat → Nat → Nat → R Unit
  | 0, _, _ => .out
  | g + 1, n, i =>
    if E.L.length ≤ i then wrong E i
    else if sees E i [[123]] then braces g (n + 1) (i + 1)
    else if sees E i [[125]] then (if n = 1 then .ok () i else braces g (n - 1) (i + 1))
    else braces g n (i + 1)

def Unt.zero (k at_ : Nat) : Unt := ⟨k, at_, [], [], [], false, .zero, .zero, [], []⟩
def unitP (f i : Nat) : R Unt :=
  let u := Unt.zero 0 (placeAt E i)
  if sees E i [[109, 116, 121, 112, 101]] && sees E (i + 1) [[61], [123]] then
    (need E [123] (if sees E (i + 1) [[61]] then i + 2 else i + 1)).bd fun _ j => (many E (pid E) f j).bd fun l k => (need E [125] k).bd fun _ m => .ok { u with kind := 1, names := l } m
  else if sees E i [[116, 121, 112, 101, 100, 101, 102]] then
    (pid E (i + 1)).bd fun n j => (need E [123] j).bd fun _ j => (decls E f [125] f j).bd fun l k => (need E [125] k).bd fun _ m => .ok { u with kind := 3, name := n, decls := l } m
  else if sees E i [[97, 99, 116, 105, 118, 101], [112, 114, 111, 99, 116, 121, 112, 101]] then
    (if sees E i [[97, 99, 116, 105, 118, 101]] then
      (if sees E (i + 1) [[91]] then (expr E f 0 (i + 2)).bd fun a k => (need E [93] k).bd fun _ m => R.ok (true, a) m else R.ok (true, Ast.num 1) (i + 1))
     else R.ok (false, Ast.zero) i).bd fun p j =>
    (need E [112, 114, 111, 99, 116, 121, 112, 101] j).bd fun _ j => (pid E j).bd fun n j => (need E [40] j).bd fun _ j =>
    (if sees E j [[41]] then R.ok [] j else decls E f [41] f j).bd fun l k => (need E [41] k).bd fun _ k => (body E f k).bd fun b m =>
    .ok { u with kind := 4, active := p.1, count := p.2, name := n, decls := l, body := b } m
  else if sees E i [[105, 110, 105, 116]] then (body E f (i + 1)).bd fun b m => .ok { u with kind := 5, body := b } m
  else if sees E i [[110, 101, 118, 101, 114]] then (body E f (i + 1)).bd fun b m => .ok { u with kind := 6, body := b } m
  else if sees E i [[105, 110, 108, 105, 110, 101]] then
    (pid E (i + 1)).bd fun n j => (within E (pid E) f j).bd fun l k => (body E f k).bd fun b m => .ok { u with kind := 7, name := n, names := l, body := b } m
  else if sees E i [[108, 116, 108]] then
    (if kindAt E (i + 1) = 1 then R.ok (textAt E (i + 1)) (i + 2) else R.ok [] (i + 1)).bd fun n j => (need E [123] j).bd fun _ k =>
    (braces E f 1 k).bd fun _ m => .ok { u with kind := 8, name := n, text := (E.S.take (placeAt E m)).drop (placeAt E (k - 1) + 1) } (m + 1)
  else (decl E f i).bd fun d j => .ok { u with kind := 2, decl := d } j

def units (f : Nat) : Nat → Nat → R (List Unt)
  | 0, _ => .out
  | g + 1, i =>
    if E.L.length ≤ i then .ok [] i
    else if sees E i [[59]] then units f g (i + 1)
    else (unitP E f i).bd fun u j => (units f g j).bd fun l k => .ok (u :: l) k
end
end Go.Proofs.YtpoghableadkcaaGreatDoor
end
section
/- The parser in memory; the walks of its small methods. -/
namespace Go.Proofs.YtpoghableadkcaaGreatDoor
open Go.RowKit
set_option linter.unusedVariables false

def strV (s:Bs):Value:=.string ⟨s.toArray⟩
def tokV (t:Tk):Value:=.agg #[.int .i64 (t.kind:Int),.string ⟨t.text.toArray⟩,.int .i64 (t.num:Int),.int .i64 (t.at_:Int)]
def tokAt (E:Env) (i:Nat):Tk:=match E.L[i]? with | some t=>t | none=>⟨0,[],0,E.S.length⟩
section
variable {E:Env} {i:Nat}
theorem tokAt_some {t:Tk} (h:E.L[i]?=some t):tokAt E i=t:=by unfold tokAt;rw [h]
theorem tokAt_none (h:E.L[i]?=none):tokAt E i=⟨0,[],0,E.S.length⟩:=by unfold tokAt;rw [h]
theorem kindAt_tok:kindAt E i=(tokAt E i).kind:=by unfold kindAt tokAt;cases E.L[i]? <;> rfl
theorem textAt_tok:textAt E i=(tokAt E i).text:=by unfold textAt tokAt;cases E.L[i]? <;> rfl
theorem numAt_tok:numAt E i=(tokAt E i).num:=by unfold numAt tokAt;cases E.L[i]? <;> rfl
theorem placeAt_tok:placeAt E i=(tokAt E i).at_:=by unfold placeAt tokAt;cases E.L[i]? <;> rfl
theorem kind_lt (h:kindAt E i ≠ 0):i < E.L.length:=by
 unfold kindAt at h
 split at h
 ·next h'=>exact (List.getElem?_eq_some_iff.1 h').1
 ·exact absurd rfl h
theorem sees_lt {l:List Bs} (h:sees E i l=true):i < E.L.length:=by
 refine kind_lt (E:=E) ?_
 unfold sees at h
 intro h'
 rw [h'] at h
 simp at h
end

/-- The parser,at its i-th word;vl: its words. -/
structure Par (w:World) (p:Nat) (vl:Value) (E:Env) (i:Nat):Prop where
 at_:Holds w p 63 [.string ⟨E.S.toArray⟩,vl,.int .i64 (i:Int)]
 row:∃ a cap,vl=.slice a E.L.length cap∧E.L.length ≤ cap∧cap ≤ 9223372036854775807∧(0 < E.L.length→∃ g n,a=some ⟨g,0,none⟩∧g < p∧Holds w g 93 n∧∀ j,j < E.L.length * 4→n[j]?=(flatT E.L)[j]?)
 le:i ≤ E.L.length
 few:E.L.length ≤ 65536
 short:E.S.length ≤ 65536
 place:∀ t ∈ E.L,t.at_ < 65536∧t.kind ≤ 4∧t.num < 4294967296

/-- Only the parser has turned. -/
abbrev Fp (p:Nat) (w w':World):Prop:=Fr (fun k=>k=p) w w'
theorem Fp.of_below {p:Nat} {w w':World} (h:Below w.heap.size w w'):Fp p w w':=Fr.of_below h _

theorem Par.lt {w:World} {p:Nat} {vl:Value} {E:Env} {i:Nat} (h:Par w p vl E i):p < w.heap.size:=h.at_.lt
/-- What leaves the parser and what lies ahead of it alone leaves it as it is. -/
theorem Par.keep {w w':World} {p:Nat} {vl:Value} {E:Env} {i:Nat} (h:Par w p vl E i) (hk:∀ k,k ≤ p→w'.heap[k]?=w.heap[k]?):Par w' p vl E i:=by
 obtain ⟨h1,⟨a,cap,h2,h3,h4,h5⟩,h8,h9,h10,h11⟩:=h
 refine ⟨h1.of_eq (hk _ (Nat.le_refl _)),⟨a,cap,h2,h3,h4,fun hl=>?_⟩,h8,h9,h10,h11⟩
 obtain ⟨g,n,h0,h5,h6,h7⟩:=h5 hl
 exact ⟨g,n,h0,h5,h6.of_eq (hk _ (Nat.le_of_lt h5)),h7⟩
theorem Par.belowAll {w w':World} {p:Nat} {vl:Value} {E:Env} {i:Nat} (h:Par w p vl E i) (hb:Below w.heap.size w w'):Par w' p vl E i:=h.keep fun k hk=>hb.block k (Nat.lt_of_le_of_lt hk h.lt)
theorem Par.alloc {w:World} {p:Nat} {vl:Value} {E:Env} {i:Nat} (h:Par w p vl E i) (o:Obj):Par (w.alloc o) p vl E i:=h.belowAll ((Below.refl _ _).alloc (Nat.le_refl _) _)
theorem Par.far {w:World} {p:Nat} {vl:Value} {E:Env} {i:Nat} (h:Par w p vl E i) {a:Addr} (ha:p < a.block) (u:Value):Par (w.setCell a u) p vl E i:=h.keep fun k hk=>Below.heap_setCell w a u k (by omega)
theorem Par.set {w:World} {p:Nat} {vl:Value} {E:Env} {i:Nat} (h:Par w p vl E i) {j:Nat} (hj:j ≤ E.L.length):Par (w.setCell ⟨p,2,none⟩ (.int .i64 (j:Int))) p vl E j:=by
 obtain ⟨h1,⟨a,cap,h2,h3,h4,h5⟩,h8,h9,h10,h11⟩:=h
 refine ⟨h1.put 2 _,⟨a,cap,h2,h3,h4,fun hl=>?_⟩,hj,h9,h10,h11⟩
 obtain ⟨g,n,h0,h5,h6,h7⟩:=h5 hl
 exact ⟨g,n,h0,h5,h6.far (by show g ≠ p;omega) _,h7⟩
theorem Par.drew {w:World} {p:Nat} {vl:Value} {E:Env} {i:Nat} (h:Par w p vl E i):Par w.drew p vl E i:=h.keep fun _ _=>rfl
theorem Par.drewN {w:World} {p:Nat} {vl:Value} {E:Env} {i:Nat} (h:Par w p vl E i) (n:Nat):Par (w.drewN n) p vl E i:=h.keep fun _ _=>rfl

theorem flatT_at:∀ (L:List Tk) (i r:Nat),r < 4→(flatT L)[i * 4 + r]?=(L[i]?).bind fun t=>(tkCells t)[r]?
 | [],i,r,hr=>by simp [flatT]
 | t :: L,0,r,hr=>by
  have hl:(tkCells t).length=4:=rfl
  simp only [flatT,List.flatMap_cons,Nat.zero_mul,Nat.zero_add,List.getElem?_cons_zero,Option.bind_some]
  rw [List.getElem?_append_left (by omega)]
 | t :: L,i + 1,r,hr=>by
  have hl:(tkCells t).length=4:=rfl
  have:=flatT_at L i r hr
  simp only [flatT,List.flatMap_cons,List.getElem?_cons_succ] at this ⊢
  rw [List.getElem?_append_right (by omega),hl,show (i + 1) * 4 + r - 4=i * 4 + r by omega]
  exact this
/-- A word's cells. -/
theorem Par.tok {w:World} {p:Nat} {vl:Value} {E:Env} {i j:Nat} (h:Par w p vl E i) (hj:j < E.L.length):
  ∃ g cap,vl=.slice (some ⟨g,0,none⟩) E.L.length cap∧E.L.length ≤ cap∧cap ≤ 9223372036854775807∧g < p ∧
   w.cell? ⟨g,j * 4,none⟩=some (.int .i64 ((tokAt E j).kind:Int))∧w.cell? ⟨g,j * 4 + 1,none⟩=some (.string ⟨(tokAt E j).text.toArray⟩) ∧
   w.cell? ⟨g,j * 4 + 2,none⟩=some (.int .i64 ((tokAt E j).num:Int))∧w.cell? ⟨g,j * 4 + 3,none⟩=some (.int .i64 ((tokAt E j).at_:Int)):=by
 obtain ⟨h1,⟨a,cap,h2,h3,h4,h5⟩,h8,h9,h10,h11⟩:=h
 obtain ⟨g,n,rfl,h5,h6,h7⟩:=h5 (by omega)
 have hs:E.L[j]?=some (E.L[j]'hj):=List.getElem?_eq_getElem hj
 have ht:=tokAt_some (E:=E) hs
 have key:∀ r,r < 4→w.cell? ⟨g,j * 4 + r,none⟩=(tkCells (tokAt E j))[r]?:=fun r hr=>by
  rw [h6.cell,h7 _ (by omega),flatT_at _ _ _ hr,hs,ht];rfl
 exact ⟨g,cap,h2,h3,h4,h5,key 0 (by omega),key 1 (by omega),key 2 (by omega),key 3 (by omega)⟩
theorem Par.form {w:World} {p:Nat} {vl:Value} {E:Env} {i:Nat} (h:Par w p vl E i):∃ a cap,vl=.slice a E.L.length cap∧E.L.length ≤ cap∧cap ≤ 9223372036854775807:=by
 obtain ⟨h1,⟨a,cap,h2,h3,h4,_⟩,h8,h9,h10,h11⟩:=h
 exact ⟨a,cap,h2,h3,h4⟩

theorem cell_drewN {w:World} {a:Addr} {v:Option Value} (h:w.cell? a=v) (n:Nat):(w.drewN n).cell? a=v:=h
theorem word_out {w:World} {tmps:Array Value} {b:Nat} {x y z u:Value} (hH:Holds w b 93 [x,y,z,u]) (h4:tmps[4]?.getD undef=.pointer (some ⟨b,0,none⟩)):
  (results Tryz.f49 tmps).run Tryz.prog w=.ok (.agg #[x,y,z,u]) w:=by
 have d0:=hH.cell 0
 have d1:=hH.cell 1
 have d2:=hH.cell 2
 have d3:=hH.cell 3
 simp at d0 d1 d2 d3
 simp [results,Tryz.results49,h4,go_sem,d0,d1,d2,d3]
theorem below_set4 {B b:Nat} {w W:World} (h:Below B w W) (hb:B ≤ b) (x y z u:Value):Below B w ((((W.setCell ⟨b,0,none⟩ x).setCell ⟨b,1,none⟩ y).setCell ⟨b,2,none⟩ z).setCell ⟨b,3,none⟩ u):=(((h.setCell hb _).setCell hb _).setCell hb _).setCell hb _
set_option maxHeartbeats 1000000 in
set_option maxRecDepth 100000 in
theorem wordFn {w:World} {p:Nat} {vl:Value} {E:Env} {i:Nat} (h:Par w p vl E i) (n:Nat) (hn:n ≤ 1):
  Calls Tryz.prog 49 #[.pointer (some ⟨p,0,none⟩),.int .i64 (n:Int)] w fun e w'=>e=.returned (tokV (tokAt E (i + n)))∧Below w.heap.size w w':=by
 have hle:=h.le
 have hfew:=h.few
 have hsh:=h.short
 obtain ⟨W0,hW0⟩:∃ W0,W0=w.alloc (.cells #[.int .i64 0,.string ⟨#[]⟩,.int .i64 0,.int .i64 0] 93):=⟨_,rfl⟩
 have hb0:Below w.heap.size w W0:=by rw [hW0];exact (Below.refl _ _).alloc (Nat.le_refl _) _
 have h0:Par W0 p vl E i:=h.belowAll hb0
 have hH0:Holds W0 w.heap.size 93 [.int .i64 0,.string ⟨#[]⟩,.int .i64 0,.int .i64 0]:=by rw [hW0];exact Holds.new w _ _
 have c0:=h0.at_.cell 0
 have c1:=h0.at_.cell 1
 have c2:=h0.at_.cell 2
 simp only [List.getElem?_cons_zero,List.getElem?_cons_succ] at c0 c1 c2
 have HP:=Lib.hid h0
 have HH:=Lib.hid hH0
 have HB:=Lib.hid hb0
 obtain ⟨N,hN⟩:∃ N,E.L.length=N:=⟨_,rfl⟩
 by_cases hlt:i + n < E.L.length
 ·obtain ⟨g,cap,rfl,hc1,hc2,hgp,t0,t1,t2,t3⟩:=h0.tok hlt
  rw [hN] at hc1 hlt hle hfew c1 HP
  generalize tokAt E (i + n)=t at *
  have hlt':(i:Int) + (n:Int) < (N:Int):=by omega
  rw [hW0] at c0 c1 c2 t0 t1 t2 t3
  clear h hN h0 hH0 hb0
  go_enter Tryz.func49,Tryz.ntmps49
  go_wp2
  go_quiet (fail)
  replace c0:=cell_drewN c0 nq
  replace c1:=cell_drewN c1 nq
  replace c2:=cell_drewN c2 nq
  replace t0:=cell_drewN t0 nq
  replace t1:=cell_drewN t1 nq
  replace t2:=cell_drewN t2 nq
  replace t3:=cell_drewN t3 nq
  have hH1:=HH.out.drewN nq
  have hb1:=below_drewN' HB.out nq
  rw [hW0] at hH1 hb1
  generalize (w.alloc (.cells #[.int .i64 0,.string ⟨#[]⟩,.int .i64 0,.int .i64 0] 93)).drewN nq=W1 at c0 c1 c2 t0 t1 t2 t3 hH1 hb1 ⊢
  have f0:=hH1.free 0
  have f1:=hH1.free 1
  have f2:=hH1.free 2
  have f3:=hH1.free 3
  have e0:=hH1.cell 0
  have e1:=hH1.cell 1
  have e2:=hH1.cell 2
  have e3:=hH1.cell 3
  simp only [List.getElem?_cons_zero,List.getElem?_cons_succ] at e0 e1 e2 e3
  have HH1:=Lib.hid hH1
  have HB1:=Lib.hid hb1
  clear hb1 hH1 HP HH HB hW0
  go_wp2
  go_region
  go_wp2
  exact bodyPost_ret (word_out ((((HH1.out.put 0 _).put 1 _).put 2 _).put 3 _).drew rfl) rfl ⟨rfl,(below_set4 HB1.out (Nat.le_refl _) _ _ _ _).drew⟩
 ·rw [hN] at hlt hle hfew
  rw [show tokAt E (i + n)=⟨0,[],0,E.S.length⟩ from tokAt_none (List.getElem?_eq_none (by omega))]
  obtain ⟨a0,cap,rfl,hc1,hc2⟩:=h0.form
  rw [hN] at hc1 c1
  have hlt':decide ((i:Int) + (n:Int) < (N:Int))=false:=decide_eq_false (by omega)
  obtain ⟨SL,hSL⟩:∃ SL,E.S.length=SL:=⟨_,rfl⟩
  have hlen:(ByteArray.mk E.S.toArray).size=SL:=by rw [← hSL];simp [ByteArray.size]
  have HSL:=Lib.hid hlen
  obtain ⟨SB,hSB⟩:∃ SB,ByteArray.mk E.S.toArray=SB:=⟨_,rfl⟩
  rw [hSB] at c0 HSL
  rw [hSL] at hsh ⊢
  rw [hW0] at c0 c1 c2
  clear h hN h0 hH0 hb0 hlt HP hSL hSB hlen
  go_enter Tryz.func49,Tryz.ntmps49
  go_wp2
  go_quiet (fail)
  replace c0:=cell_drewN c0 nq
  replace c1:=cell_drewN c1 nq
  replace c2:=cell_drewN c2 nq
  have hH1:=HH.out.drewN nq
  have hb1:=below_drewN' HB.out nq
  rw [hW0] at hH1 hb1
  generalize (w.alloc (.cells #[.int .i64 0,.string ⟨#[]⟩,.int .i64 0,.int .i64 0] 93)).drewN nq=W1 at c0 c1 c2 hH1 hb1 ⊢
  have f0:=hH1.free 0
  have f1:=hH1.free 1
  have f2:=hH1.free 2
  have f3:=hH1.free 3
  have e0:=hH1.cell 0
  have e1:=hH1.cell 1
  have e2:=hH1.cell 2
  have e3:=hH1.cell 3
  simp only [List.getElem?_cons_zero,List.getElem?_cons_succ] at e0 e1 e2 e3
  have HH1:=Lib.hid hH1
  have HB1:=Lib.hid hb1
  clear hb1 hH1 HH HB hW0
  go_wp2
  refine bodyPost_ret (word_out ((((HH1.out.put 0 _).put 1 _).put 2 _).put 3 _) rfl) rfl ⟨?_,below_set4 HB1.out (Nat.le_refl _) _ _ _ _⟩
  rw [HSL.out]
  rfl

/-- A row of strings,made for a call. -/
def ba (s:Bs):ByteArray:=⟨s.toArray⟩
theorem ba_inj {a b:Bs} (h:ba a=ba b):a=b:=by
 unfold ba at h
 injection h with h
 simpa using h
theorem containsFn {w:World} {b:Nat} (l:List Bs) (x:Bs) (h:Holds w b 9 (l.map strV)) (hl:l.length ≤ 65536):
  Calls Tryz.prog 102 #[.slice (some ⟨b,0,none⟩) l.length l.length,.string ⟨x.toArray⟩] w fun e w'=>e=.returned (.bool (l.contains x))∧w'=w:=by
 have hh:=Tryz.slices_Contains_string b 0 l.length l.length (l.map ba) (ba x) w (by simp) (by omega) (fun j hj=>by
  rw [List.length_map] at hj
  rw [Nat.zero_add,h.cell,List.getElem?_map,List.getElem?_eq_getElem hj,List.getD_eq_getElem?_getD,List.getElem?_map,List.getElem?_eq_getElem hj]
  rfl)
 refine hh.mono fun e w' ⟨he,hw⟩=>⟨?_,hw⟩
 rw [he]
 congr 2
 rw [Bool.eq_iff_iff,Lib.containsS_iff,List.contains_iff_mem,List.take_of_length_le (by simp),List.mem_map]
 exact ⟨fun ⟨a,ha,hx⟩=>ba_inj hx ▸ ha,fun h=>⟨x,h,rfl⟩⟩

set_option maxHeartbeats 1000000 in
set_option maxRecDepth 100000 in
theorem seesFn {w:World} {p:Nat} {vl:Value} {E:Env} {i:Nat} (h:Par w p vl E i) (n:Nat) (hn:n ≤ 1) {b:Nat} (l:List Bs) (hl:Holds w b 9 (l.map strV)) (hs:l.length ≤ 65536):
  Calls Tryz.prog 48 #[.pointer (some ⟨p,0,none⟩),.int .i64 (n:Int),.slice (some ⟨b,0,none⟩) l.length l.length] w fun e w'=>e=.returned (.bool (sees E (i + n) l))∧Below w.heap.size w w':=by
 have HW:=Lib.hid (wordFn h n hn)
 have HL:=Lib.hid hl
 obtain ⟨r,hr⟩:∃ r,sees E (i + n) l=r:=⟨_,rfl⟩
 have hr':=hr
 unfold sees at hr'
 rw [kindAt_tok,textAt_tok] at hr'
 rw [hr]
 generalize tokAt E (i + n)=t at *
 obtain ⟨m,hm⟩:∃ m,l.length=m:=⟨_,rfl⟩
 rw [hm] at hs ⊢
 have HM:=Lib.hid hm
 clear h hr hl hm
 by_cases hk:t.kind=4
 ·have hk':((t.kind:Int) == 4)=true:=by simp;omega
  have HR:Hid (l.contains t.text=r):=by show _=_;rw [← hr'];simp [hk]
  clear hr' hk
  go_enter Tryz.func48,Tryz.ntmps48
  go_wp2_with (fail)
  refine (HW.out).mono ?_
  rintro e w1 ⟨rfl,hb⟩
  have hH:=Holds.new w1 93 #[.int .i64 (t.kind:Int),.string ⟨t.text.toArray⟩,.int .i64 (t.num:Int),.int .i64 (t.at_:Int)]
  have hL:=(HL.out.belowAll hb).alloc (.cells #[.int .i64 (t.kind:Int),.string ⟨t.text.toArray⟩,.int .i64 (t.num:Int),.int .i64 (t.at_:Int)] 93)
  have e0:=hH.cell 0
  have e1:=hH.cell 1
  simp only [List.getElem?_cons_zero,List.getElem?_cons_succ] at e0 e1
  have HL1:=Lib.hid hL
  have HB:=Lib.hid (hb.trans ((Below.refl _ _).alloc hb.size (.cells #[.int .i64 (t.kind:Int),.string ⟨t.text.toArray⟩,.int .i64 (t.num:Int),.int .i64 (t.at_:Int)] 93)))
  clear hH hL hb
  unfold tokV
  go_wp2_with (fail)
  have hC:=containsFn l t.text HL1.out (by rw [HM.out];exact hs)
  rw [HM.out] at hC
  refine hC.mono ?_
  rintro e w2 ⟨rfl,rfl⟩
  rw [HR.out]
  go_wp2
  go_ret
  exact ⟨rfl,HB.out⟩
 ·have hk':((t.kind:Int) == 4)=false:=by simp;omega
  obtain rfl:r=false:=by rw [← hr'];simp [hk]
  clear hr' hk
  go_enter Tryz.func48,Tryz.ntmps48
  go_wp2_with (fail)
  refine (HW.out).mono ?_
  rintro e w1 ⟨rfl,hb⟩
  have hH:=Holds.new w1 93 #[.int .i64 (t.kind:Int),.string ⟨t.text.toArray⟩,.int .i64 (t.num:Int),.int .i64 (t.at_:Int)]
  have e0:=hH.cell 0
  have e1:=hH.cell 1
  simp only [List.getElem?_cons_zero,List.getElem?_cons_succ] at e0 e1
  have HB:=Lib.hid (hb.trans ((Below.refl _ _).alloc hb.size (.cells #[.int .i64 (t.kind:Int),.string ⟨t.text.toArray⟩,.int .i64 (t.num:Int),.int .i64 (t.at_:Int)] 93)))
  clear hH hb
  unfold tokV
  go_wp2
  go_ret
  exact ⟨rfl,HB.out⟩
end Go.Proofs.YtpoghableadkcaaGreatDoor
end
section
/- The walks of the parser's small methods: takes, wrong, needs, is, id. -/
namespace Go.Proofs.YtpoghableadkcaaGreatDoor
open Go.RowKit
set_option linter.unusedVariables false

theorem Par.cells {w:World} {p:Nat} {vl:Value} {E:Env} {i:Nat} (h:Par w p vl E i):w.cell? ⟨p,0,none⟩=some (.string ⟨E.S.toArray⟩)∧w.cell? ⟨p,1,none⟩=some vl∧w.cell? ⟨p,2,none⟩=some (.int .i64 (i:Int))∧w.frozen? ⟨p,2,none⟩=false:=by
 have c0:=h.at_.cell 0
 have c1:=h.at_.cell 1
 have c2:=h.at_.cell 2
 simp only [List.getElem?_cons_zero,List.getElem?_cons_succ] at c0 c1 c2
 exact ⟨c0,c1,c2,h.at_.free 2⟩

theorem Fp.set {p:Nat} {w W:World} (h:Fp p w W) (i:Nat) (u:Value):Fp p w (W.setCell ⟨p,i,none⟩ u):=Fr.setCell h (fun _=>rfl) u
set_option maxHeartbeats 1000000 in
set_option maxRecDepth 100000 in
theorem takes_yes {w:World} {p:Nat} {vl:Value} {E:Env} {i:Nat} (h:Par w p vl E i) {b:Nat} (l:List Bs) (hl:Holds w b 9 (l.map strV)) (hs:l.length ≤ 65536) (hy:sees E i l=true):
  Calls Tryz.prog 18 #[.pointer (some ⟨p,0,none⟩),.slice (some ⟨b,0,none⟩) l.length l.length] w fun e w'=>e=.returned (.bool true)∧Par w' p vl E (i + 1)∧Fp p w w':=by
 have HS:=Lib.hid (seesFn h 0 (by omega) l hl hs)
 have hi:=sees_lt hy
 have hfew:=h.few
 rw [Nat.add_zero,hy] at HS
 have HP:=Lib.hid h
 have HI:=Lib.hid hi
 have hi2:i ≤ 65536:=by omega
 clear h hy hl hi hfew
 go_enter Tryz.func18,Tryz.ntmps18
 go_wp2_with (fail)
 refine (HS.out).mono ?_
 rintro e w1 ⟨rfl,hb⟩
 have hP1:=HP.out.belowAll hb
 obtain ⟨c0,c1,c2,f2⟩:=hP1.cells
 have HP1:=Lib.hid hP1
 have HB:=Lib.hid hb
 clear hP1 hb
 go_wp2
 go_ret
 exact ⟨rfl,HP1.out.set HI.out,(Fp.of_below HB.out).set 2 _⟩

set_option maxHeartbeats 1000000 in
set_option maxRecDepth 100000 in
theorem takes_no {w:World} {p:Nat} {vl:Value} {E:Env} {i:Nat} (h:Par w p vl E i) {b:Nat} (l:List Bs) (hl:Holds w b 9 (l.map strV)) (hs:l.length ≤ 65536) (hy:sees E i l=false):
  Calls Tryz.prog 18 #[.pointer (some ⟨p,0,none⟩),.slice (some ⟨b,0,none⟩) l.length l.length] w fun e w'=>e=.returned (.bool false)∧Below w.heap.size w w':=by
 have HS:=Lib.hid (seesFn h 0 (by omega) l hl hs)
 rw [Nat.add_zero,hy] at HS
 clear h hy hl
 go_enter Tryz.func18,Tryz.ntmps18
 go_wp2_with (fail)
 refine (HS.out).mono ?_
 rintro e w1 ⟨rfl,hb⟩
 have HB:=Lib.hid hb
 clear hb
 go_wp2
 go_ret
 exact ⟨rfl,HB.out⟩

/-- What a mishap is thrown as. -/
def badChain (c a:Nat):List PanicEntry:=[{ v:=.iface 26 (mish c a),recovered:=false }]
def BadPost (c a:Nat) (w:World) (e:Ending) (w':World):Prop:=e=.panicked (badChain c a)∧Below w.heap.size w w'
def wrongC (E:Env) (i:Nat):Nat × Nat:=match E.L[i]? with | some t=>(30,t.at_) | none=>(21,E.S.length)
theorem wrong_eq {A:Type} (E:Env) (i:Nat):(wrong E i:R A)=.bad (wrongC E i).1 (wrongC E i).2:=by
 unfold wrong wrongC;cases E.L[i]? <;> rfl

set_option maxHeartbeats 1000000 in
set_option maxRecDepth 100000 in
theorem wrongFn {w:World} {p:Nat} {vl:Value} {E:Env} {i:Nat} (h:Par w p vl E i):
  Calls Tryz.prog 30 #[.pointer (some ⟨p,0,none⟩)] w (BadPost (wrongC E i).1 (wrongC E i).2 w):=by
 obtain ⟨c0,c1,c2,f2⟩:=h.cells
 have hle:=h.le
 have hfew:=h.few
 have hsh:=h.short
 obtain ⟨N,hN⟩:∃ N,E.L.length=N:=⟨_,rfl⟩
 by_cases hlt:i < E.L.length
 ·obtain ⟨g,cap,rfl,hc1,hc2,hgp,t0,t1,t2,t3⟩:=h.tok hlt
  have hw:wrongC E i=(30,(tokAt E i).at_):=by
   have hs:E.L[i]?=some (E.L[i]'hlt):=List.getElem?_eq_getElem hlt
   rw [tokAt_some hs];unfold wrongC;rw [hs]
  rw [hw]
  rw [hN] at hc1 hlt hle hfew c1
  generalize tokAt E i=t at *
  have hlt':(i:Int) < (N:Int):=by omega
  clear h hN hw hsh
  go_enter Tryz.func30,Tryz.ntmps30
  go_wp2
  go_quiet (fail)
  replace c0:=cell_drewN c0 nq
  replace c1:=cell_drewN c1 nq
  replace c2:=cell_drewN c2 nq
  replace t3:=cell_drewN t3 nq
  clear t0 t1 t2
  have hb1:=below_drewN' (Below.refl w.heap.size w) nq
  generalize w.drewN nq=W1 at c0 c1 c2 t3 hb1 ⊢
  have HB1:=Lib.hid hb1
  clear hb1
  go_wp2
  go_region_dies
  all_goals exact ⟨rfl,rfl,HB1.out.drew⟩
 ·have hw:wrongC E i=(21,E.S.length):=by unfold wrongC;rw [List.getElem?_eq_none (by omega)]
  rw [hw]
  obtain ⟨a0,cap,rfl,hc1,hc2⟩:=h.form
  rw [hN] at hc1 c1 hlt hle hfew
  have hlt':decide (i < N)=false:=decide_eq_false (by omega)
  obtain ⟨SL,hSL⟩:∃ SL,E.S.length=SL:=⟨_,rfl⟩
  have hlen:(ByteArray.mk E.S.toArray).size=SL:=by rw [← hSL];simp [ByteArray.size]
  have HSL:=Lib.hid hlen
  obtain ⟨SB,hSB⟩:∃ SB,ByteArray.mk E.S.toArray=SB:=⟨_,rfl⟩
  rw [hSB] at c0 HSL
  rw [hSL] at hsh ⊢
  clear h hN hw hlt hSL hSB hlen
  go_enter Tryz.func30,Tryz.ntmps30
  go_wp2
  go_quiet (fail)
  replace c0:=cell_drewN c0 nq
  replace c1:=cell_drewN c1 nq
  replace c2:=cell_drewN c2 nq
  have hb1:=below_drewN' (Below.refl w.heap.size w) nq
  generalize w.drewN nq=W1 at c0 c1 c2 hb1 ⊢
  have HB1:=Lib.hid hb1
  clear hb1
  go_wp2
  refine ⟨rfl,?_,HB1.out⟩
  rw [HSL.out]
  rfl

/-- What a method of the parser answers. -/
def Out (p:Nat) (vl:Value) (E:Env) (w:World) {A:Type} (V:World→Value→A→Prop) (r:R A) (e:Ending) (w':World):Prop:=
 match r with
 | .out=>False
 | .bad c a=>e=.panicked (badChain c a)∧Fp p w w'
 | .ok x j=>∃ v,e=.returned v∧V w' v x∧Par w' p vl E j∧Fp p w w'
def UnitV (_:World) (v:Value) (_:Unit):Prop:=v=.tuple #[]
def StrV (_:World) (v:Value) (s:Bs):Prop:=v=.string ⟨s.toArray⟩
theorem Fp.refl (p:Nat) (w:World):Fp p w w:=Fr.refl _ _
theorem Fp.trans {p:Nat} {a b c:World} (h:Fp p a b) (k:Fp p b c):Fp p a c:=Fr.trans h k fun _ _ h=>h
theorem Fp.bel {p:Nat} {a b c:World} (h:Fp p a b) (k:Below b.heap.size b c):Fp p a c:=h.trans (Fp.of_below k)

set_option maxHeartbeats 1000000 in
set_option maxRecDepth 100000 in
theorem needFn {w:World} {p:Nat} {vl:Value} {E:Env} {i:Nat} (h:Par w p vl E i) (s:Bs):
  Calls Tryz.prog 50 #[.pointer (some ⟨p,0,none⟩),.string ⟨s.toArray⟩] w (Out p vl E w UnitV (need E s i)):=by
 have hb0:Below w.heap.size w (w.alloc (.cells #[.string ⟨s.toArray⟩] 9)):=(Below.refl _ _).alloc (Nat.le_refl _) _
 have hP0:=h.belowAll hb0
 have hl:Holds (w.alloc (.cells #[.string ⟨s.toArray⟩] 9)) w.heap.size 9 ([s].map strV):=Holds.new w _ _
 cases hy:sees E i [s] with
 | true=>
  have HT:=Lib.hid (takes_yes hP0 [s] hl (by simp) hy)
  rw [show need E s i=.ok () (i + 1) by unfold need;rw [if_pos hy]]
  have HB:=Lib.hid hb0
  clear h hy hl hP0 hb0
  go_enter Tryz.func50,Tryz.ntmps50
  go_wp2_with (fail)
  refine (HT.out).mono ?_
  rintro e w1 ⟨rfl,hP,hF⟩
  have HR:Hid (Par w1 p vl E (i + 1)∧Fp p w w1):=⟨hP,(Fp.of_below HB.out).trans hF⟩
  clear hP hF
  go_wp2
  refine bodyPost_ret (v:=.tuple #[]) (by simp [results,Tryz.results50,go_sem]) rfl ⟨_,rfl,rfl,HR.out⟩
 | false=>
  have HT:=Lib.hid (takes_no hP0 [s] hl (by simp) hy)
  rw [show need E s i=.bad (wrongC E i).1 (wrongC E i).2 by unfold need;rw [if_neg (by rw [hy];decide)];exact wrong_eq E i]
  have HB:=Lib.hid hb0
  have HP:=Lib.hid hP0
  clear h hy hl hP0 hb0
  go_enter Tryz.func50,Tryz.ntmps50
  go_wp2_with (fail)
  refine (HT.out).mono ?_
  rintro e w1 ⟨rfl,hb⟩
  have HW:=Lib.hid (wrongFn (HP.out.belowAll hb))
  have HF:Hid (Fp p w w1):=(Fp.of_below HB.out).bel hb
  clear hb
  go_wp2_with (fail)
  refine (HW.out).mono ?_
  rintro e w2 ⟨rfl,hb⟩
  exact ⟨rfl,rfl,HF.out.bel hb⟩

theorem field_tok0 (a b c d:Value) (w:World):(Instr.field 93 (.agg #[a,b,c,d]) 0).run Tryz.prog w=.ok a w:=by kernel_rfl
theorem field_tok1 (a b c d:Value) (w:World):(Instr.field 93 (.agg #[a,b,c,d]) 1).run Tryz.prog w=.ok b w:=by kernel_rfl
theorem field_tok3 (a b c d:Value) (w:World):(Instr.field 93 (.agg #[a,b,c,d]) 3).run Tryz.prog w=.ok d w:=by kernel_rfl
set_option maxRecDepth 100000 in
theorem isFn {w:World} {p:Nat} {vl:Value} {E:Env} {i:Nat} (h:Par w p vl E i) (k:Nat):
  Calls Tryz.prog 103 #[.pointer (some ⟨p,0,none⟩),.int .i64 (k:Int)] w fun e w'=>e=.returned (.bool (decide (kindAt E i=k)))∧Below w.heap.size w w':=by
 have HW:=Lib.hid (wordFn h 0 (by omega))
 rw [Nat.add_zero] at HW
 rw [kindAt_tok]
 generalize tokAt E i=t at *
 unfold tokV at HW
 have HK:Hid (((t.kind:Int) == (k:Int))=decide (t.kind=k)):=by show _=_;rw [Bool.eq_iff_iff];simp;omega
 clear h
 go_enter Tryz.func103,Tryz.ntmps103
 go_wp2_with (fail)
 refine (HW.out).mono ?_
 rintro e w1 ⟨rfl,hb⟩
 have HB:=Lib.hid hb
 clear hb
 have hfd:=field_tok0
 go_wp2
 go_ret
 rw [← HK.out]
 exact ⟨rfl,HB.out⟩

theorem Par.set1 {w:World} {p:Nat} {vl:Value} {E:Env} {i:Nat} (h:Par w p vl E i) (hj:i < E.L.length):Par (w.setCell ⟨p,2,none⟩ (.int .i64 ((i:Int) + 1))) p vl E (i + 1):=h.set (j:=i + 1) hj
theorem Par.cells1 {w:World} {p:Nat} {vl:Value} {E:Env} {i:Nat} (h:Par w p vl E (i + 1)):w.cell? ⟨p,0,none⟩=some (.string ⟨E.S.toArray⟩)∧w.cell? ⟨p,1,none⟩=some vl∧w.cell? ⟨p,2,none⟩=some (.int .i64 ((i:Int) + 1))∧w.frozen? ⟨p,2,none⟩=false:=h.cells
theorem pid_yes {E:Env} {i:Nat} (h:kindAt E i=1):pid E i=.ok (tokAt E i).text (i + 1):=by unfold pid;rw [if_pos h,textAt_tok]
theorem pid_no {E:Env} {i:Nat} (h:¬ kindAt E i=1):pid E i=.bad (wrongC E i).1 (wrongC E i).2:=by unfold pid;rw [if_neg h];exact wrong_eq E i

set_option maxHeartbeats 1000000 in
set_option maxRecDepth 100000 in
theorem idFn {w:World} {p:Nat} {vl:Value} {E:Env} {i:Nat} (h:Par w p vl E i):
  Calls Tryz.prog 52 #[.pointer (some ⟨p,0,none⟩)] w (Out p vl E w StrV (pid E i)):=by
 have HI:=Lib.hid (isFn h 1)
 have HP:=Lib.hid h
 by_cases hk:kindAt E i=1
 ·rw [pid_yes hk]
  have hlt:i < E.L.length:=kind_lt (by omega)
  rw [hk] at HI
  have hle:=h.few
  have HL:=Lib.hid hlt
  obtain ⟨g,cap,hvl,hc1,hc2,hgp,_⟩:=h.tok hlt
  obtain ⟨N,hN⟩:∃ N,E.L.length=N:=⟨_,rfl⟩
  rw [hN] at hle hlt hvl hc1
  have HN:=Lib.hid hN
  clear h hk hN
  go_enter Tryz.func52,Tryz.ntmps52
  go_wp2_with (fail)
  refine (HI.out).mono ?_
  rintro e w1 ⟨rfl,hb⟩
  have hP1:=HP.out.belowAll hb
  have hP2:=hP1.set1 HL.out
  obtain ⟨c0,c1,c2,f2⟩:=hP1.cells
  obtain ⟨d0,d1,d2,_⟩:=hP2.cells1
  obtain ⟨g2,cap2,hvl2,_,_,_,t0,t1,t2,t3⟩:=hP2.tok HL.out
  rw [HN.out] at hvl2
  rw [hvl] at c1 d1 hvl2
  injection hvl2 with q1 _ q2
  injection q1 with q1
  injection q1 with q1
  subst q1
  have HP2:=Lib.hid hP2
  have HF:=Lib.hid ((Fp.of_below (p:=p) hb).set 2 (.int .i64 ((i:Int) + 1)))
  generalize tokAt E i=t at *
  clear hP1 hP2 hb t0 t2 t3 q2
  go_wp2
  go_quiet (fail)
  go_wp2
  go_ret
  exact ⟨_,rfl,rfl,HP2.out.drewN nq,(HF.out).drewN nq⟩
 ·rw [pid_no hk]
  rw [decide_eq_false hk] at HI
  clear h hk
  go_enter Tryz.func52,Tryz.ntmps52
  go_wp2_with (fail)
  refine (HI.out).mono ?_
  rintro e w1 ⟨rfl,hb⟩
  have HW:=Lib.hid (wrongFn (HP.out.belowAll hb))
  have HF:Hid (Fp p w w1):=(Fp.of_below hb)
  clear hb
  go_wp2_with (fail)
  refine (HW.out).mono ?_
  rintro e w2 ⟨rfl,hb⟩
  exact ⟨rfl,rfl,HF.out.bel hb⟩
end Go.Proofs.YtpoghableadkcaaGreatDoor
end
section
/- The walks of kinds, kind, levels, level. -/
namespace Go.Proofs.YtpoghableadkcaaGreatDoor
open Go.RowKit
set_option linter.unusedVariables false

theorem kindsFn (w:World):Calls Tryz.prog 140 #[] w fun e w'=>e=.returned (.slice (some ⟨w.heap.size,0,none⟩) 9 9)∧w'=w.alloc (.cells (kindsL.map strV).toArray 9):=by
 go_enter Tryz.func140,Tryz.ntmps140
 go_wp2
 go_ret
 exact ⟨rfl,rfl⟩

theorem kindsFn' (w:World):Calls Tryz.prog 140 #[] w fun e w'=>∃ b,e=.returned (.slice (some ⟨b,0,none⟩) 9 9)∧Holds w' b 9 (kindsL.map strV)∧Below w.heap.size w w':=
 (kindsFn w).mono fun e w' ⟨he,hw⟩=>⟨_,he,hw ▸ Holds.new w _ _,hw ▸ (Below.refl _ _).alloc (Nat.le_refl _) _⟩

theorem idxFromS_find (x:Bs):∀ (l:List Bs) (i:Nat),Lib.idxFromS (l.map ba) (ba x) i=if (l.findIdx fun s=>s == x) < l.length then ((i + (l.findIdx fun s=>s == x):Nat):Int) else -1
 | [],i=>rfl
 | s :: l,i=>by
  rw [List.map_cons,Lib.idxFromS,List.findIdx_cons]
  by_cases h:s=x
  ·subst h
   simp
  ·have hb:¬ ba s=ba x:=fun h'=>h (ba_inj h')
   have hx:(s == x)=false:=by simpa using h
   rw [hx,idxFromS_find x l (i + 1)]
   simp only [hb,cond_false,List.length_cons,Nat.add_lt_add_iff_right,if_false]
   split
   ·congr 1;omega
   ·rfl

theorem kindIx (x:Bs):max (Lib.idxOfS ((kindsL.map ba).take 9) (ba x)) 0=(((let k:=kindsL.findIdx (fun s=>s == x);if k < 9 then k else 0):Nat):Int):=by
 rw [List.take_of_length_le (by decide)]
 unfold Lib.idxOfS
 rw [idxFromS_find]
 simp only [show kindsL.length=9 by rfl,Nat.zero_add]
 split
 ·omega
 ·rfl

theorem indexKinds {w:World} {b:Nat} (x:Bs) {r:Int} (h:Holds w b 9 (kindsL.map strV)) (hr:Lib.idxOfS ((kindsL.map ba).take 9) (ba x)=r):
  Calls Tryz.prog 138 #[.slice (some ⟨b,0,none⟩) 9 9,.string ⟨x.toArray⟩] w fun e w'=>e=.returned (.int .i64 r)∧w'=w:=by
 rw [← hr]
 refine Tryz.slices_Index_string b 0 9 9 (kindsL.map ba) (ba x) w (by decide) (by decide) fun j hj=>?_
 rw [List.length_map] at hj
 rw [Nat.zero_add,h.cell,List.getElem?_map,List.getElem?_eq_getElem hj,List.getD_eq_getElem?_getD,List.getElem?_map,List.getElem?_eq_getElem hj]
 rfl

set_option maxHeartbeats 1000000 in
set_option maxRecDepth 100000 in
theorem kindFn {w:World} {p:Nat} {vl:Value} {E:Env} {i:Nat} (h:Par w p vl E i):
  Calls Tryz.prog 105 #[.pointer (some ⟨p,0,none⟩)] w fun e w'=>e=.returned (.int .i64 (kindOf E i:Int))∧Below w.heap.size w w':=by
 have HW:=Lib.hid (wordFn h 0 (by omega))
 rw [Nat.add_zero] at HW
 obtain ⟨r,hr⟩:∃ r,kindOf E i=r:=⟨_,rfl⟩
 have hr':=hr
 unfold kindOf at hr'
 rw [kindAt_tok,textAt_tok] at hr'
 rw [hr]
 generalize tokAt E i=t at *
 unfold tokV at HW
 clear h hr
 by_cases hk:t.kind=4
 ·have hk':((t.kind:Int) == 4)=true:=by simp;omega
  rw [if_pos hk] at hr'
  obtain ⟨ri,hri⟩:∃ ri,Lib.idxOfS ((kindsL.map ba).take 9) (ba t.text)=ri:=⟨_,rfl⟩
  have HX:=Lib.hid (kindIx t.text)
  rw [hr',hri] at HX
  clear hk hr'
  go_enter Tryz.func105,Tryz.ntmps105
  go_wp2_with (fail)
  refine (HW.out).mono ?_
  rintro e w1 ⟨rfl,hb⟩
  have hH:=Holds.new w1 93 #[.int .i64 (t.kind:Int),.string ⟨t.text.toArray⟩,.int .i64 (t.num:Int),.int .i64 (t.at_:Int)]
  have e0:=hH.cell 0
  have e1:=hH.cell 1
  simp only [List.getElem?_cons_zero,List.getElem?_cons_succ] at e0 e1
  have HB:=Lib.hid (hb.trans ((Below.refl _ _).alloc hb.size (.cells #[.int .i64 (t.kind:Int),.string ⟨t.text.toArray⟩,.int .i64 (t.num:Int),.int .i64 (t.at_:Int)] 93)))
  have HE1:=Lib.hid hH
  clear hb hH
  go_wp2
  generalize hW2:w1.alloc (.cells #[.int .i64 (t.kind:Int),.string ⟨t.text.toArray⟩,.int .i64 (t.num:Int),.int .i64 (t.at_:Int)] 93)=W2 at *
  have hC:Hid (∀ w',Below W2.heap.size W2 w'→(fun w':World=>Below W2.heap.size W2 w'∧w'.cell? ⟨w1.heap.size,1,none⟩=some (.string ⟨t.text.toArray⟩)) w'):=fun w' h=>⟨h,(HE1.out.belowAll h).cell 1⟩
  have hCt:Hid (∀ w' w6,(fun w':World=>Below W2.heap.size W2 w'∧w'.cell? ⟨w1.heap.size,1,none⟩=some (.string ⟨t.text.toArray⟩)) w'→Below w'.heap.size w' w6→(fun w':World=>Below W2.heap.size W2 w'∧w'.cell? ⟨w1.heap.size,1,none⟩=some (.string ⟨t.text.toArray⟩)) w6):=fun w' w6 h h'=>hC.out _ (h.1.trans (h'.mono h.1.size))
  clear e0 e1
  go_region_held3 (fun w':World=>Below W2.heap.size W2 w'∧w'.cell? ⟨w1.heap.size,1,none⟩=some (.string ⟨t.text.toArray⟩)) (first | exact hC.out _ (Below.refl _ _).drew | exact hS6.out) (first
   | (go_at_call 138;refine (indexKinds t.text hH6.out hri).mono ?_;rintro e w6 ⟨rfl,rfl⟩)
   | (go_at_call 140;refine (kindsFn' _).mono ?_;rintro e w6 ⟨b6,rfl,hH6',hb6⟩;have hH6:=Lib.hid hH6';have hS6:=Lib.hid (hCt.out _ _ (by assumption) hb6);clear hH6' hb6))
  all_goals (
   have HBz:Hid (Below w.heap.size w w6):=HB.out.trans (hS6.out.1.mono HB.out.size)
   clear hS6 hri
   go_wp2
   go_ret
   rw [HX.out]
   exact ⟨rfl,HBz.out⟩)
 ·have hk':((t.kind:Int) == 4)=false:=by simp;omega
  rw [if_neg hk] at hr'
  subst hr'
  clear hk
  go_enter Tryz.func105,Tryz.ntmps105
  go_wp2_with (fail)
  refine (HW.out).mono ?_
  rintro e w1 ⟨rfl,hb⟩
  have hH:=Holds.new w1 93 #[.int .i64 (t.kind:Int),.string ⟨t.text.toArray⟩,.int .i64 (t.num:Int),.int .i64 (t.at_:Int)]
  have e0:=hH.cell 0
  simp only [List.getElem?_cons_zero] at e0
  have HB:=Lib.hid (hb.trans ((Below.refl _ _).alloc hb.size (.cells #[.int .i64 (t.kind:Int),.string ⟨t.text.toArray⟩,.int .i64 (t.num:Int),.int .i64 (t.at_:Int)] 93)))
  clear hb hH
  go_wp2
  go_ret
  exact ⟨rfl,HB.out⟩

/-- The levels,laid in memory: rows v of strings. -/
def LevRows (w:World) (vs:List Value):Prop:=∀ (k:Nat) (l:List Bs),levelsL[k]?=some l→∃ b,vs[k]?=some (.slice (some ⟨b,0,none⟩) l.length l.length)∧Holds w b 9 (l.map strV)∧l.length ≤ 65536
theorem LevRows.belowAll {w w':World} {vs:List Value} (h:LevRows w vs) (hb:Below w.heap.size w w'):LevRows w' vs:=fun k l hl=>by
 obtain ⟨b,h1,h2,h3⟩:=h k l hl
 exact ⟨b,h1,h2.belowAll hb,h3⟩

def LevelsPost (w:World) (e:Ending) (w':World):Prop:=∃ b vs,vs.length=10∧e=.returned (.slice (some ⟨b,0,none⟩) 10 10)∧Holds w' b 34 vs∧LevRows w' vs∧Below w.heap.size w w'

/-- Rows of strings,laid one behind the other. -/
def allocs (w:World):List (List Bs)→World
 | []=>w
 | l :: r=>allocs (w.alloc (.cells (l.map strV).toArray 9)) r
theorem allocs_below:∀ (L:List (List Bs)) (w:World),Below w.heap.size w (allocs w L)
 | [],w=>Below.refl _ _
 | l :: r,w=>by
  have h1:Below w.heap.size w (w.alloc (.cells (l.map strV).toArray 9)):=(Below.refl _ _).alloc (Nat.le_refl _) _
  exact h1.trans ((allocs_below r _).mono h1.size)
theorem allocs_size:∀ (L:List (List Bs)) (w:World),(allocs w L).heap.size=w.heap.size + L.length
 | [],w=>rfl
 | l :: r,w=>by
  rw [allocs,allocs_size r]
  simp
  omega
theorem allocs_at:∀ (L:List (List Bs)) (w:World) (k:Nat) (l:List Bs),L[k]?=some l→Holds (allocs w L) (w.heap.size + k) 9 (l.map strV)
 | [],w,k,l,h=>by simp at h
 | a :: r,w,0,l,h=>by
  injection h with h
  subst h
  exact (Holds.new w 9 (a.map strV).toArray).belowAll (allocs_below r _)
 | a :: r,w,k + 1,l,h=>by
  have h':r[k]?=some l:=h
  have:=allocs_at r (w.alloc (.cells (a.map strV).toArray 9)) k l h'
  rw [show (w.alloc (.cells (a.map strV).toArray 9)).heap.size=w.heap.size + 1 by simp] at this
  rw [show w.heap.size + (k + 1)=w.heap.size + 1 + k by omega]
  exact this
def levVs (n:Nat):List (List Bs)→List Value
 | []=>[]
 | l :: r=>.slice (some ⟨n,0,none⟩) l.length l.length :: levVs (n + 1) r
theorem levVs_at:∀ (L:List (List Bs)) (n k:Nat) (l:List Bs),L[k]?=some l→(levVs n L)[k]?=some (.slice (some ⟨n + k,0,none⟩) l.length l.length)
 | [],n,k,l,h=>by simp at h
 | a :: r,n,0,l,h=>by
  injection h with h
  subst h
  rfl
 | a :: r,n,k + 1,l,h=>by
  have:=levVs_at r (n + 1) k l h
  rw [show n + (k + 1)=n + 1 + k by omega]
  exact this
theorem lev_short:∀ (k:Nat) (l:List Bs),levelsL[k]?=some l→l.length ≤ 65536:=fun k l h=>by
 have hm:=List.mem_of_getElem? h
 exact (show ∀ l ∈ levelsL,l.length ≤ 65536 by decide) l hm

set_option maxHeartbeats 1000000 in
set_option maxRecDepth 100000 in
theorem levelsFn (w:World):Calls Tryz.prog 116 #[] w (LevelsPost w):=by
 go_enter Tryz.func116,Tryz.ntmps116
 go_wp2
 go_ret
 refine ⟨w.heap.size + 10,levVs w.heap.size levelsL,rfl,rfl,?_,?_,?_⟩
 ·have h:=Holds.new (allocs w levelsL) 34 (levVs w.heap.size levelsL).toArray
  rw [allocs_size] at h
  exact h
 ·have hb:Below (allocs w levelsL).heap.size (allocs w levelsL) ((allocs w levelsL).alloc (.cells (levVs w.heap.size levelsL).toArray 34)):=(Below.refl _ _).alloc (Nat.le_refl _) _
  exact fun k l hl=>⟨w.heap.size + k,levVs_at levelsL _ k l hl,(allocs_at levelsL w k l hl).belowAll hb,lev_short k l hl⟩
 ·have h1:=allocs_below levelsL w
  exact h1.trans ((Below.refl _ _).alloc h1.size (.cells (levVs w.heap.size levelsL).toArray 34))

set_option maxRecDepth 100000 in
theorem level1Fn {w:World} {p bx:Nat} {vl:Value} {E:Env} {i:Nat} (h:Par w p vl E i) (hx:Holds w bx 59 [.pointer (some ⟨p,0,none⟩)]) {b:Nat} (l:List Bs) (hl:Holds w b 9 (l.map strV)) (hs:l.length ≤ 65536):
  Calls Tryz.prog 117 #[.slice (some ⟨b,0,none⟩) l.length l.length,.pointer (some ⟨bx,0,none⟩)] w fun e w'=>e=.returned (.bool (sees E i l))∧Below w.heap.size w w':=by
 have HS:=Lib.hid (seesFn h 0 (by omega) l hl hs)
 rw [Nat.add_zero] at HS
 have c0:=hx.cell 0
 simp only [List.getElem?_cons_zero] at c0
 obtain ⟨m,hm⟩:∃ m,l.length=m:=⟨_,rfl⟩
 rw [hm] at HS hs ⊢
 generalize sees E i l=r at *
 clear hm h hx hl
 go_enter Tryz.func117,Tryz.ntmps117
 go_wp2_with (fail)
 refine (HS.out).mono ?_
 rintro e w1 ⟨rfl,hb⟩
 have HB:=Lib.hid hb
 clear hb
 go_wp2
 go_ret
 exact ⟨rfl,HB.out⟩

set_option maxHeartbeats 1000000 in
set_option maxRecDepth 100000 in
theorem indexLev {w:World} {p bx bo:Nat} {vl:Value} {E:Env} {i:Nat} (vs:List Value) (hvs:vs.length=10) (h:Par w p vl E i) (hx:Holds w bx 59 [.pointer (some ⟨p,0,none⟩)]) (ho:Holds w bo 34 vs) (hr:LevRows w vs):
  Calls Tryz.prog 115 #[.slice (some ⟨bo,0,none⟩) 10 10,.func (.func 117) #[] #[.pointer (some ⟨bx,0,none⟩)]] w
   fun e w'=>e=.returned (.int .i64 ((levAt E i:Int) - 1))∧Below w.heap.size w w':=by
 have HP:=Lib.hid h
 have HX:=Lib.hid hx
 have HO:=Lib.hid ho
 have HR:=Lib.hid hr
 have HV:=Lib.hid hvs
 have eg:∀ args w,(callFunc 117 args).run Tryz.prog w=.ok (.enter 117 args) w:=enters_of Tryz.func117 (by decide) rfl
 obtain ⟨R,hR⟩:∃ R:Int,(levAt E i:Int) - 1=R:=⟨_,rfl⟩
 have HRR:=Lib.hid hR
 rw [hR]
 clear h hx ho hr hvs hR
 go_enter Tryz.func115,Tryz.ntmps115
 go_wp2
 go_loopw [8] (fun x wr=>∃ k:Nat,x=.int .i64 (k:Int)∧k ≤ 10∧Hid (∀ (j:Nat) (l:List Bs),j < k→levelsL[j]?=some l→sees E i l=false)∧Hid (Below w.heap.size w wr)) (fun x _=>(30 - intOf x).toNat)
 case atStart=>exact ⟨0,rfl,Nat.zero_le _,fun _ _ h _=>by omega,Below.refl _ _⟩
 case round=>
  obtain ⟨k,rfl,hk,HK,HB⟩:=hrel
  by_cases hl:k < 10
  ·have hl':(k:Int) < 10:=by omega
   obtain ⟨l,hlk⟩:∃ l,levelsL[k]?=some l:=⟨_,List.getElem?_eq_getElem (show k < levelsL.length from hl)⟩
   obtain ⟨b,hvk,hHb,hsh⟩:=(HR.out.belowAll HB.out) k l hlk
   have hcell:=(HO.out.belowAll HB.out).cell k
   rw [hvk] at hcell
   have HC:=Lib.hid (level1Fn (HP.out.belowAll HB.out) (HX.out.belowAll HB.out) l hHb hsh)
   have HLK:=Lib.hid hlk
   obtain ⟨m,hm⟩:∃ m,l.length=m:=⟨_,rfl⟩
   rw [hm] at HC hcell
   obtain ⟨q,hq⟩:∃ q,sees E i l=q:=⟨_,rfl⟩
   rw [hq] at HC
   have HQ:=Lib.hid hq
   clear hvk hHb hsh hlk hm hq
   go_wp2_with (fail)
   refine (HC.out).mono ?_
   rintro e w2 ⟨rfl,hb⟩
   have HB2:Hid (Below w.heap.size w w2):=HB.out.trans (hb.mono HB.out.size)
   clear hb
   cases q with
   | true=>
    go_wp2
    go_ret
    have hres:R=(k:Int):=by
     rw [← HRR.out]
     have hf:levelsL.findIdx (fun l=>sees E i l)=k:=by
      rw [List.findIdx_eq (show k < levelsL.length from hl)]
      have hg:levelsL[k]'(show k < levelsL.length from hl)=l:=(List.getElem?_eq_some_iff.1 HLK.out).2
      refine ⟨by rw [hg];exact HQ.out,fun j hj=>HK.out j _ hj (List.getElem?_eq_getElem (by show j < 10;omega))⟩
     unfold levAt
     simp only [hf,hl,if_true]
     omega
    rw [hres]
    exact ⟨rfl,HB2.out⟩
   | false=>
    go_wp2
    refine ⟨⟨k + 1,rfl,by omega,?_,HB2⟩,by simp [intOf];omega⟩
    intro j l' hj hl2
    by_cases hjk:j=k
    ·subst hjk
     rw [HLK.out] at hl2
     injection hl2 with hl2
     rw [← hl2]
     exact HQ.out
    ·exact HK.out j l' (by omega) hl2
  ·obtain rfl:k=10:=by omega
   have hres:R=-1:=by
    rw [← HRR.out]
    have hf:levelsL.findIdx (fun l=>sees E i l)=10:=by
     rw [show (10:Nat)=levelsL.length by rfl,List.findIdx_eq_length]
     intro l hl2
     obtain ⟨j,hj,hjl⟩:=List.getElem_of_mem hl2
     exact HK.out j l hj (by rw [List.getElem?_eq_getElem hj,hjl])
    unfold levAt
    simp only [hf]
    rfl
   clear hl
   go_wp2
   go_ret
   rw [hres]
   exact ⟨rfl,HB.out⟩

set_option maxHeartbeats 1000000 in
set_option maxRecDepth 100000 in
theorem levelFn {w:World} {p:Nat} {vl:Value} {E:Env} {i:Nat} (h:Par w p vl E i):
  Calls Tryz.prog 69 #[.pointer (some ⟨p,0,none⟩)] w fun e w'=>e=.returned (.int .i64 ((levAt E i:Int) - 1))∧Below w.heap.size w w':=by
 have hmf:∀ (fn:Fn) (first cap:Array Value) (w:World),(Instr.makeFunc fn first cap).run Tryz.prog w=.ok (.func fn first cap) w:=fun _ _ _ _=>rfl
 have HP:=Lib.hid (h.alloc (.cells #[.pointer (some ⟨p,0,none⟩)] 59))
 have HX:=Lib.hid (Holds.new w 59 #[.pointer (some ⟨p,0,none⟩)])
 have HB0:=Lib.hid ((Below.refl w.heap.size w).alloc (Nat.le_refl _) (.cells #[.pointer (some ⟨p,0,none⟩)] 59))
 clear h
 go_enter Tryz.func69,Tryz.ntmps69
 go_wp2_with (fail)
 refine (levelsFn _).mono ?_
 rintro e w1 ⟨b,vs,hvs,rfl,ho,hr,hb⟩
 have HI:=Lib.hid (indexLev vs hvs (HP.out.belowAll hb) (HX.out.belowAll hb) ho hr)
 have HB1:=Lib.hid (HB0.out.trans (hb.mono HB0.out.size))
 clear hvs ho hr hb
 go_wp2_with (fail)
 refine (HI.out).mono ?_
 rintro e w2 ⟨rfl,hb⟩
 have HB2:=Lib.hid (HB1.out.trans (hb.mono HB1.out.size))
 clear hb
 go_wp2
 go_ret
 exact ⟨rfl,HB2.out⟩
end Go.Proofs.YtpoghableadkcaaGreatDoor
end
