import Derived.Lib.Atoi
import Derived.Lib.ItoaNum
/- The pure side of layer 26: reading and showing scripts as functions of lists of bytes. -/
set_option linter.unusedVariables false
set_option linter.unusedSimpArgs false
namespace Go.Proofs.YtmkmkccdlopogaaGreatDoor.Con
open Go
abbrev B := List UInt8

/-- the value of a hex digit -/
def hexv (c : UInt8) : Option Nat :=
  if 48 ≤ c.toNat ∧ c.toNat ≤ 57 then some (c.toNat - 48) else if 65 ≤ c.toNat ∧ c.toNat ≤ 70 then some (c.toNat - 55) else none

/-- behind the quote: the text, and how many bytes it took -/
def unq : B → Nat → B → Option (B × Nat)
  | [], _, _ => none
  | c :: t, i, out =>
    if c = 34 then some (out, i + 1)
    else if c.toNat < 32 ∨ 126 < c.toNat then none
    else if c ≠ 92 then unq t (i + 1) (out ++ [c])
    else match t with
      | [] => none
      | d :: t1 =>
        if d = 34 ∨ d = 92 then unq t1 (i + 2) (out ++ [d])
        else if d = 120 then
          match t1 with
          | a :: b :: t2 =>
            match hexv a, hexv b with
            | some x, some y => unq t2 (i + 4) (out ++ [UInt8.ofNat (x * 16 + y)])
            | _, _ => none
          | _ => none
        else none
termination_by s => s.length

structure Field where
  text : B
  quoted : Bool
  deriving DecidableEq, Inhabited

/-- how many bytes of the head are neither a blank nor a quote -/
def plainLen : B → Nat
  | [] => 0
  | c :: t => if c = 32 ∨ c = 34 then 0 else plainLen t + 1

def blanks : B → Nat
  | [] => 0
  | c :: t => if c = 32 then blanks t + 1 else 0

/-- the fields of a line; none: it can't be cut -/
def cutF : Nat → B → Option (List Field)
  | 0, _ => none
  | n + 1, s =>
    match s.drop (blanks s) with
    | [] => some []
    | c :: t =>
      if c = 34 then
        match unq t 0 [] with
        | none => none
        | some (x, k) => if (t.drop k).head?.getD 32 = 32 then (cutF n (t.drop k)).map (⟨x, true⟩ :: ·) else none
      else if ((c :: t).drop (plainLen (c :: t))).head?.getD 32 = 34 then none
      else (cutF n ((c :: t).drop (plainLen (c :: t)))).map (⟨(c :: t).take (plainLen (c :: t)), false⟩ :: ·)

def cut (s : B) : Option (List Field) := cutF (s.length + 1) s

/-- without the stroke ahead -/
def digitsOf (s : B) : B := if s.head? = some 45 then s.tail else s
def isDig (c : UInt8) : Bool := 48 ≤ c.toNat && c.toNat ≤ 57

/-- is it a number? -/
def numOk (f : Field) : Bool :=
  !f.quoted && !(digitsOf f.text).isEmpty && (digitsOf f.text).length ≤ 9 && (digitsOf f.text).all isDig && !((digitsOf f.text).head? == some 48 && !(f.text == [48]))

/-- what an unquoted field writes -/
def number (f : Field) : Option Int := if numOk f then Lib.atoi f.text else none

structure Job where
  program : B
  output : B
  inputs : List B
  parts : Int
  split : Int
  spill : Int
  deriving DecidableEq, Inhabited

structure Act where
  kind : Int
  path : B
  to : B
  data : B
  quota : Int
  job : Job
  deriving DecidableEq, Inhabited

structure Script where
  nodes : Int
  replicas : Int
  block : Int
  room : Int
  acts : List (List Act)
  choices : List Int
  rounds : Int
  flips : Bool
  deriving DecidableEq, Inhabited

def Script.zero : Script := ⟨0, 0, 0, 0, [], [], 0, false⟩
def Job.zero : Job := ⟨[], [], [], 0, 0, 0⟩
def Act.zero (k : Int) : Act := ⟨k, [], [], [], 0, Job.zero⟩

/-- the words of the acts, by kind less 1, and what stands behind them -/
def verbs : List (B × B) := [
  ([109, 107, 100, 105, 114], [112]), ([99, 114, 101, 97, 116, 101], [112]), ([97, 112, 112, 101, 110, 100], [112, 100]),
  ([99, 108, 111, 115, 101], [112]), ([100, 101, 108, 101, 116, 101], [112]), ([114, 101, 110, 97, 109, 101], [112, 113]),
  ([108, 105, 109, 105, 116], [112, 110]), ([114, 101, 97, 100], [112]), ([108, 105, 115, 116], [112]), ([115, 117, 98, 109, 105, 116], []),
  ([115, 116, 97, 116, 117, 115], [112])]

def wNodes : B := [110, 111, 100, 101, 115]
def wReplicas : B := [114, 101, 112, 108, 105, 99, 97, 115]
def wBlock : B := [98, 108, 111, 99, 107]
def wRoom : B := [114, 111, 111, 109]
def wRounds : B := [114, 111, 117, 110, 100, 115]
def wFlips : B := [102, 108, 105, 112, 115]
def wClient : B := [99, 108, 105, 101, 110, 116]
def wChoose : B := [99, 104, 111, 111, 115, 101]

/-- the rest of a submit's line -/
def submitOf (rest : List Field) : Option Act :=
  match rest with
  | p :: o :: a :: b :: c :: g :: l =>
    match number a, number b, number c with
    | some x, some y, some z => some { Act.zero 10 with path := p.text, job := ⟨g.text, o.text, l.map (·.text), x, y, z⟩ }
    | _, _, _ => none
  | _ => none

/-- an act's fields, by the letters -/
def argsOf : B → List Field → Act → Option Act
  | [], [], a => some a
  | c :: cs, f :: fs, a =>
    if c = 112 then argsOf cs fs { a with path := f.text }
    else if c = 113 then argsOf cs fs { a with to := f.text }
    else if c = 100 then argsOf cs fs { a with data := f.text }
    else match number f with
      | some n => argsOf cs fs { a with quota := n }
      | none => none
  | _, _, _ => none

def actOf (k : Nat) (args : B) (rest : List Field) : Option Act :=
  if k = 10 then submitOf rest else argsOf args rest (Act.zero k)

/-- the kind of a word, and what stands behind it -/
def findVerb : Nat → List (B × B) → B → Option (Nat × B)
  | _, [], _ => none
  | k, (v, a) :: l, w => if v = w then some (k, a) else findVerb (k + 1) l w

def setNum (s : Script) (w : B) (n : Int) : Option Script :=
  if w = wNodes then some { s with nodes := n }
  else if w = wReplicas then some { s with replicas := n }
  else if w = wBlock then some { s with block := n }
  else if w = wRoom then some { s with room := n }
  else if w = wRounds then some { s with rounds := n }
  else none

def nums : List Field → Option (List Int)
  | [] => some []
  | f :: l => match number f, nums l with
    | some n, some r => some (n :: r)
    | _, _ => none

/-- behind the last client's acts -/
def addAct : List (List Act) → Act → List (List Act)
  | [], _ => []
  | [l], a => [l ++ [a]]
  | l :: r, a => l :: addAct r a

/-- a line's fields: the script, or the error's number -/
def lineS (s : Script) (w : Field) (rest : List Field) : Except Int Script :=
  if w.quoted then .error 260
  else if (setNum s w.text 0).isSome then
    match rest with
    | [f] => match number f with
      | some n => .ok ((setNum s w.text n).getD s)
      | none => .error 2
    | _ => .error 2
  else if w.text = wFlips then (if rest = [] then .ok { s with flips := true } else .error 2)
  else if w.text = wClient then (if rest = [] then .ok { s with acts := s.acts ++ [[]] } else .error 2)
  else if w.text = wChoose then
    match rest, nums rest with
    | _ :: _, some l => .ok { s with choices := s.choices ++ l }
    | _, _ => .error 2
  else match findVerb 1 verbs w.text with
    | none => .error 260
    | some (k, args) =>
      match actOf k args rest with
      | none => .error 2
      | some a => if s.acts = [] then .error 3 else .ok { s with acts := addAct s.acts a }

/-- the lines of a text -/
def splitNl : B → List B
  | [] => [[]]
  | c :: t => if c = 10 then [] :: splitNl t else match splitNl t with
    | [] => [[c]]
    | l :: r => (c :: l) :: r

def linesOf (t : B) : List B := if (splitNl t).getLast? = some [] then (splitNl t).dropLast else splitNl t

def parseLines : List B → Nat → Script → Script × Int × Nat
  | [], _, s => (s, 0, 0)
  | l :: ls, i, s =>
    if l.head? = some 35 then parseLines ls (i + 1) s
    else match cut l with
      | none => (Script.zero, 160, i + 1)
      | some [] => parseLines ls (i + 1) s
      | some (w :: rest) => match lineS s w rest with
        | .error e => (Script.zero, e, i + 1)
        | .ok s1 => parseLines ls (i + 1) s1

def parse (t : B) : Script × Int × Nat := if 1048576 < t.length then (Script.zero, 1, 0) else parseLines (linesOf t) 0 Script.zero

/-! ### showing -/
def hexd (n : Nat) : UInt8 := if n < 10 then UInt8.ofNat (48 + n) else UInt8.ofNat (55 + n)
def qb (c : UInt8) : B := if c = 34 ∨ c = 92 then [92, c] else if c.toNat < 32 ∨ 126 < c.toNat then [92, 120, hexd (c.toNat / 16), hexd (c.toNat % 16)] else [c]
def qbody (s : B) : B := s.flatMap qb
def quote (s : B) : B := 34 :: qbody s ++ [34]

/-- fields with one blank between -/
def joinB : List B → B
  | [] => []
  | [x] => x
  | x :: y :: l => x ++ 32 :: joinB (y :: l)

def argTexts (a : Act) : B → List B
  | [] => []
  | c :: cs => (if c = 112 then quote a.path else if c = 113 then quote a.to else if c = 100 then quote a.data else Lib.itoa a.quota) :: argTexts a cs

def actTexts (a : Act) : List B :=
  let v := verbs.getD (a.kind.toNat - 1) ([], [])
  v.1 :: argTexts a v.2 ++ (if a.kind = 10 then [quote a.path, quote a.job.output, Lib.itoa a.job.parts, Lib.itoa a.job.split, Lib.itoa a.job.spill, quote a.job.program] ++ a.job.inputs.map quote else [])

def showable (a : Act) : Bool := 0 < a.kind && a.kind < 12

def actLines (l : List Act) : List (List B) := (l.filter showable).map actTexts

def showLines (s : Script) : List (List B) :=
  [[wNodes, Lib.itoa s.nodes], [wReplicas, Lib.itoa s.replicas], [wBlock, Lib.itoa s.block], [wRoom, Lib.itoa s.room], [wRounds, Lib.itoa s.rounds]]
  ++ (if s.flips then [[wFlips]] else [])
  ++ (if s.choices = [] then [] else [wChoose :: s.choices.map Lib.itoa])
  ++ s.acts.flatMap fun l => [wClient] :: actLines l

def showS (s : Script) : B := (showLines s).flatMap fun l => joinB l ++ [10]
end Go.Proofs.YtmkmkccdlopogaaGreatDoor.Con
