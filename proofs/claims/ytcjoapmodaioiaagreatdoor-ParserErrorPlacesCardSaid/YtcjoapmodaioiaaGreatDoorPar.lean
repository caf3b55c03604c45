/- The parser as a Lean function of the tokens' kinds, texts and numbers (plain Lean, no program in sight). Fuel: 'out' where it runs out. -/
import Derived.Test.YtcjoapmodaioiaaGreatDoorBase
namespace Go.Proofs.YtcjoapmodaioiaaGreatDoor.Pa

structure Bt where
  kind : Int
  text : ByteArray
  n : Int
structure Nd where
  kind : Int
  text : ByteArray := ⟨#[]⟩
  n : Int := 0
  kids : List Nat := []
structure Ps where
  pos : Nat
  deep : Int
  opn : Int
  nodes : List Nd
  bad : List (Int × Nat)
inductive Rs (α : Type) where
  | ok (a : α) (s : Ps)
  | no (s : Ps)
  | out
def Pm (α : Type) := Ps → Rs α
def Pm.bind {α β : Type} (x : Pm α) (f : α → Pm β) : Pm β := fun s => match x s with
  | .ok a s' => f a s'
  | .no s' => .no s'
  | .out => .out
instance : Monad Pm where
  pure a := fun s => .ok a s
  bind := Pm.bind
section
variable (L : List Bt)
def endB : Bt := ⟨9, ⟨#[]⟩, 0⟩
def tokAt (i : Nat) : Bt := L.getD i endB
def tok : Pm Bt := fun s => .ok (tokAt L s.pos) s
def isX (t : Bt) (text : ByteArray) : Bool := decide (t.text = text)
def isB (t : Bt) (kind : Int) (text : ByteArray) : Bool := t.kind == kind && isX t text
def is (kind : Int) (text : ByteArray) : Pm Bool := fun s => .ok (isB (tokAt L s.pos) kind text) s
def key (text : ByteArray) : Pm Bool := is L 4 text
def fail {α : Type} (e : Int) : Pm α := fun s => .no { s with bad := s.bad ++ [(e, s.pos)] }
def opens (t : Bt) : Int := if t.kind == 6 || isB t 5 ⟨#[123]⟩ then 1 else if t.kind == 7 || isB t 5 ⟨#[125]⟩ then -1 else 0
def next : Pm Bt := fun s => if (tokAt L s.pos).kind == 9 then .ok (tokAt L s.pos) s else .ok (tokAt L s.pos) { s with pos := s.pos + 1, opn := s.opn + opens (tokAt L s.pos) }
def want (kind : Int) (text : ByteArray) : Pm Bt := do
  if !(← is L kind text) then fail 5
  next L
def kind (c : Int) : Pm Bt := do
  if (← tok L).kind != c then fail 5
  next L
def put (x : Nd) : Pm Nat := fun s => if 4096 ≤ s.nodes.length then fail 2 s else .ok s.nodes.length { s with nodes := s.nodes ++ [x] }
def down : Pm Unit := fun s => if 100 < s.deep + 1 then fail 2 { s with deep := s.deep + 1 } else .ok () { s with deep := s.deep + 1 }
def up : Pm Unit := fun s => .ok () { s with deep := s.deep - 1 }
def loop {α β : Type} (f : α → Pm (α ⊕ β)) : Nat → α → Pm β
  | 0, _ => fun _ => .out
  | n + 1, a => do
    match ← f a with
    | .inl a' => loop f n a'
    | .inr b => pure b
def semis (n : Nat) : Pm Unit := loop (fun _ => do
  if (← tok L).kind == 8 || (← is L 5 ⟨#[59]⟩) then
    let _ ← next L
    pure (.inl ())
  else pure (.inr ())) n ()
def block (n : Nat) (item : Pm Nat) : Pm (List Nat) := do
  let br ← is L 5 ⟨#[123]⟩
  let (opn, shut) : Int × Int := if br then (5, 5) else (6, 7)
  let _ ← kind L opn
  loop (fun out => do
    semis L n
    let t ← tok L
    if t.kind == shut && (shut == 7 || isX t ⟨#[125]⟩) then
      let _ ← next L
      return .inr out
    let i ← item
    let u ← tok L
    if u.kind != 8 && u.kind != 7 && !isB u 5 ⟨#[59]⟩ && !isB u 5 ⟨#[125]⟩ then fail 5
    return .inl (out ++ [i])) n []
def name : Pm Nat := do
  let t ← tok L
  if t.kind == 0 || t.kind == 1 then
    let _ ← next L
    return ← put { kind := 3, text := t.text }
  if isB t 5 ⟨#[40]⟩ then
    let _ ← next L
    let o ← kind L 3
    let _ ← want L 5 ⟨#[41]⟩
    return ← put { kind := 3, text := o.text }
  fail 5
def names (n : Nat) : Pm (List Nat) := do
  let _ ← want L 5 ⟨#[40]⟩
  let out ← loop (fun out => do
    if ← is L 5 ⟨#[41]⟩ then return .inr out
    if 0 < out.length then let _ ← want L 5 ⟨#[44]⟩
    return .inl (out ++ [← name L])) n []
  let _ ← next L
  return out
def defined : Pm ByteArray := do
  if ← is L 5 ⟨#[40]⟩ then
    let _ ← next L
    let o ← kind L 3
    let _ ← want L 5 ⟨#[41]⟩
    return o.text
  return (← kind L 0).text
def params (n : Nat) : Pm (List Nat) := loop (fun out => do
  if (← tok L).kind != 0 then return .inr out
  let t ← next L
  return .inl (out ++ [← put { kind := 14, text := t.text }])) n []
def tail : Pm (List Nat) := do
  let t ← kind L 0
  return [← put { kind := 14, text := t.text }]
def param : Pm Nat := do
  let t ← kind L 0
  if isX t ⟨#[95]⟩ then return ← put { kind := 36 }
  put { kind := 35, text := t.text }
def beginsType (t : Bt) : Bool := t.kind == 0 || t.kind == 1 || isB t 5 ⟨#[40]⟩ || isB t 5 ⟨#[123]⟩
def beginsT : Pm Bool := do return beginsType (← tok L)
def row (n : Nat) : Pm Nat := do
  if !(← key L ⟨#[33]⟩) then return ← put { kind := 18 }
  let _ ← next L
  if (← tok L).kind == 0 then return ← put { kind := 18, kids := ← tail L }
  let _ ← want L 5 ⟨#[123]⟩
  let kids ← loop (fun (kids : List Nat) => do
    if (← is L 5 ⟨#[125]⟩) || (← key L ⟨#[124]⟩) then return .inr kids
    if 0 < kids.length then let _ ← want L 5 ⟨#[44]⟩
    let c ← kind L 1
    return .inl (kids ++ [← put { kind := 3, text := c.text }])) n []
  let kids ← if ← key L ⟨#[124]⟩ then do
    let _ ← next L
    pure (kids ++ (← tail L)) else pure kids
  let _ ← want L 5 ⟨#[125]⟩
  put { kind := 18, kids := kids }
def recType (n : Nat) (ty : Pm Nat) : Pm Nat := do
  let kids ← loop (fun (a : List Nat) => do
    if (← is L 5 ⟨#[125]⟩) || (← key L ⟨#[124]⟩) then return .inr a
    if 0 < a.length then let _ ← want L 5 ⟨#[44]⟩
    let l ← kind L 0
    let _ ← want L 4 ⟨#[58]⟩
    let y ← ty
    return .inl (a ++ [← put { kind := 19, text := l.text, kids := [y] }])) n []
  let kids ← if ← key L ⟨#[124]⟩ then do
    let _ ← next L
    pure (kids ++ (← tail L)) else pure kids
  let _ ← want L 5 ⟨#[125]⟩
  put { kind := 17, kids := kids }
inductive Ft where
  | typ | btype | atype
def types : Nat → Ft → Pm Nat
  | 0, _ => fun _ => .out
  | n + 1, .typ => do
    down
    let left ← types n .btype
    if !(← key L ⟨#[45, 62]⟩) then
      up
      return left
    let _ ← next L
    let right ← types n .typ
    let r ← row L n
    let x ← put { kind := 16, kids := [left, r, right] }
    up
    return x
  | n + 1, .btype => do
    let t ← tok L
    if t.kind != 1 then return ← types n .atype
    let _ ← next L
    let args ← loop (fun (a : List Nat) => do
      if !(← beginsT L) then return .inr a
      return .inl (a ++ [← types n .atype])) n []
    put { kind := 15, text := t.text, kids := args }
  | n + 1, .atype => do
    down
    if !(← beginsT L) then fail 5
    let t ← next L
    let x ← if t.kind == 0 then put { kind := 14, text := t.text }
      else if t.kind == 1 then put { kind := 15, text := t.text }
      else if isX t ⟨#[40]⟩ then do
        let x ← types n .typ
        let _ ← want L 5 ⟨#[41]⟩
        pure x
      else recType L n (types n .typ)
    up
    return x
def typ (n : Nat) : Pm Nat := types L n .typ
def btype (n : Nat) : Pm Nat := types L n .btype
def atype (n : Nat) : Pm Nat := types L n .atype
inductive Fp where
  | pattern | apat
def pats : Nat → Fp → Pm Nat
  | 0, _ => fun _ => .out
  | n + 1, .pattern => do
    down
    let t ← tok L
    let x ← if t.kind != 1 then pats n .apat else do
      let _ ← next L
      let kids ← loop (fun (a : List Nat) => do
        let u ← tok L
        if !(u.kind == 0 || u.kind == 1 || u.kind == 2 || isB u 5 ⟨#[40]⟩) then return .inr a
        return .inl (a ++ [← pats n .apat])) n []
      put { kind := 38, text := t.text, kids := kids }
    up
    return x
  | n + 1, .apat => do
    let t ← tok L
    if t.kind == 0 then return ← param L
    if t.kind == 1 then
      let _ ← next L
      return ← put { kind := 38, text := t.text }
    if t.kind == 2 then
      let _ ← next L
      return ← put { kind := 37, n := t.n }
    if isB t 5 ⟨#[40]⟩ then
      let _ ← next L
      let x ← pats n .pattern
      let _ ← want L 5 ⟨#[41]⟩
      return x
    fail 5
def scanAt : Nat → Nat → Option Nat
  | 0, _ => none
  | n + 1, i => if (tokAt L i).kind == 1 || (tokAt L i).kind == 0 || isB (tokAt L i) 5 ⟨#[44]⟩ then scanAt n (i + 1) else some i
def predList (n : Nat) : Pm (List Nat) := do
  let out ← loop (fun (a : List Nat) => do
    if ← key L ⟨#[61, 62]⟩ then return .inr a
    if 0 < a.length then let _ ← want L 5 ⟨#[44]⟩
    let c ← kind L 1
    let v ← kind L 0
    let y ← put { kind := 14, text := v.text }
    return .inl (a ++ [← put { kind := 11, text := c.text, kids := [y] }])) n []
  let _ ← next L
  return out
def preds (n : Nat) : Pm (List Nat) := fun s => match scanAt L n s.pos with
  | none => .out
  | some i => if isB (tokAt L i) 4 ⟨#[61, 62]⟩ then predList L n s else .ok [] s
def sigOf (n : Nat) (name : ByteArray) : Pm Nat := do
  let _ ← want L 4 ⟨#[58]⟩
  let kids ← preds L n
  let y ← typ L n
  put { kind := 12, text := name, kids := kids ++ [y] }
def sig (n : Nat) : Pm Nat := do sigOf L n (← defined L)
inductive Fe where
  | expr | ops | apply | post | atom | record | changed | alt | clause | defn | defOf (name : ByteArray)
def begins (t : Bt) : Bool := t.kind == 0 || t.kind == 1 || t.kind == 2 || isB t 5 ⟨#[40]⟩ || isB t 5 ⟨#[123]⟩
def exprs : Nat → Fe → Pm Nat
  | 0, _ => fun _ => .out
  | n + 1, .expr => do
    down
    let t ← tok L
    let x ← if t.kind != 4 then exprs n .ops
      else if isX t ⟨#[92]⟩ then do
        let _ ← next L
        let p ← param L
        let kids ← loop (fun (a : List Nat) => do
          if ← key L ⟨#[45, 62]⟩ then return .inr a
          return .inl (a ++ [← param L])) n [p]
        let _ ← next L
        let e ← exprs n .expr
        put { kind := 22, kids := kids ++ [e] }
      else if isX t ⟨#[108, 101, 116]⟩ then do
        let _ ← next L
        let kids ← block L n (exprs n .defn)
        let _ ← want L 4 ⟨#[105, 110]⟩
        let e ← exprs n .expr
        put { kind := 25, kids := kids ++ [e] }
      else if isX t ⟨#[105, 102]⟩ then do
        let _ ← next L
        let a ← exprs n .expr
        let _ ← want L 4 ⟨#[116, 104, 101, 110]⟩
        let b ← exprs n .expr
        let _ ← want L 4 ⟨#[101, 108, 115, 101]⟩
        let c ← exprs n .expr
        put { kind := 26, kids := [a, b, c] }
      else if isX t ⟨#[99, 97, 115, 101]⟩ then do
        let _ ← next L
        let a ← exprs n .expr
        let _ ← want L 4 ⟨#[111, 102]⟩
        let l ← block L n (exprs n .alt)
        put { kind := 27, kids := [a] ++ l }
      else if isX t ⟨#[104, 97, 110, 100, 108, 101]⟩ then do
        let _ ← next L
        let a ← exprs n .expr
        let _ ← want L 4 ⟨#[119, 105, 116, 104]⟩
        let l ← block L n (exprs n .clause)
        put { kind := 32, kids := [a] ++ l }
      else fail 5
    up
    return x
  | n + 1, .ops => do
    let a ← exprs n .apply
    let kids ← loop (fun (a : List Nat) => do
      if (← tok L).kind != 3 then return .inr a
      let o ← next L
      let y ← put { kind := 3, text := o.text }
      if (← tok L).kind == 4 then return .inr (a ++ [y] ++ [← exprs n .expr])
      return .inl (a ++ [y] ++ [← exprs n .apply])) n [a]
    if kids.length = 1 then return kids.headD 0
    put { kind := 24, kids := kids }
  | n + 1, .apply => do
    let f ← exprs n .post
    loop (fun (a : Nat × Nat) => do
      if !begins (← tok L) then return .inr a.1
      if 50 < a.2 then fail 2
      let arg ← exprs n .post
      return .inl (← put { kind := 23, kids := [a.1, arg] }, a.2 + 1)) n (f, 0)
  | n + 1, .post => do
    let f ← exprs n .atom
    loop (fun (a : Nat × Nat) => do
      if !(← key L ⟨#[46]⟩) then return .inr a.1
      if 50 < a.2 then fail 2
      let _ ← next L
      let l ← kind L 0
      return .inl (← put { kind := 30, text := l.text, kids := [a.1] }, a.2 + 1)) n (f, 0)
  | n + 1, .atom => do
    let t ← tok L
    if t.kind == 0 && !isX t ⟨#[95]⟩ || t.kind == 1 then
      let _ ← next L
      return ← put { kind := 20, text := t.text }
    if t.kind == 2 then
      let _ ← next L
      return ← put { kind := 21, n := t.n }
    if isB t 5 ⟨#[40]⟩ then
      let _ ← next L
      if (← tok L).kind == 3 then
        let o ← next L
        let _ ← want L 5 ⟨#[41]⟩
        return ← put { kind := 20, text := o.text }
      let x ← exprs n .expr
      let _ ← want L 5 ⟨#[41]⟩
      return x
    if isB t 5 ⟨#[123]⟩ then return ← exprs n .record
    fail 5
  | n + 1, .record => do
    let _ ← next L
    let r ← loop (β := List Nat ⊕ Nat) (fun (a : List Nat) => do
      if ← is L 5 ⟨#[125]⟩ then return .inr (.inl a)
      if 0 < a.length then let _ ← want L 5 ⟨#[44]⟩
      let l ← tok L
      if a.length = 0 then
        let q : Bool ← (fun s => .ok (l.kind != 0 || !isB (tokAt L (s.pos + 1)) 4 ⟨#[61]⟩) s : Pm Bool)
        if q then return .inr (.inr (← exprs n .changed))
      let _ ← kind L 0
      let _ ← want L 4 ⟨#[61]⟩
      let e ← exprs n .expr
      return .inl (a ++ [← put { kind := 19, text := l.text, kids := [e] }])) n []
    match r with
    | .inl kids => do
      let _ ← next L
      put { kind := 29, kids := kids }
    | .inr x => return x
  | n + 1, .changed => do
    let e ← exprs n .expr
    let _ ← want L 4 ⟨#[124]⟩
    let l ← kind L 0
    let _ ← want L 4 ⟨#[61]⟩
    let v ← exprs n .expr
    let _ ← want L 5 ⟨#[125]⟩
    put { kind := 31, text := l.text, kids := [e, v] }
  | n + 1, .alt => do
    let p ← pats L n .pattern
    let _ ← want L 4 ⟨#[45, 62]⟩
    let e ← exprs n .expr
    put { kind := 28, kids := [p, e] }
  | n + 1, .clause => do
    if ← key L ⟨#[114, 101, 116, 117, 114, 110]⟩ then
      let _ ← next L
      let v ← param L
      let _ ← want L 4 ⟨#[45, 62]⟩
      let e ← exprs n .expr
      return ← put { kind := 33, kids := [v, e] }
    let name := (← kind L 0).text
    let v ← param L
    let r ← param L
    let _ ← want L 4 ⟨#[45, 62]⟩
    let e ← exprs n .expr
    put { kind := 34, text := name, kids := [v, r, e] }
  | n + 1, .defn => do
    let name ← defined L
    if ← key L ⟨#[58]⟩ then return ← sigOf L n name
    exprs n (.defOf name)
  | n + 1, .defOf name => do
    let ps ← loop (fun (a : List Nat) => do
      if ← key L ⟨#[61]⟩ then return .inr a
      return .inl (a ++ [← param L])) n []
    let _ ← next L
    let body ← exprs n .expr
    let body ← if 0 < ps.length then put { kind := 22, kids := ps ++ [body] } else pure body
    put { kind := 13, text := name, kids := [body] }
def onlyDef (n : Nat) : Pm Nat := do exprs L n (.defOf (← defined L))
def opSig (n : Nat) : Pm Nat := do
  let name := (← kind L 0).text
  let _ ← want L 4 ⟨#[58]⟩
  let a ← btype L n
  let _ ← want L 4 ⟨#[45, 62]⟩
  let b ← btype L n
  put { kind := 8, text := name, kids := [a, b] }
def imports (n : Nat) : Pm Nat := do
  let _ ← next L
  let text := (← kind L 1).text
  if ← is L 5 ⟨#[40]⟩ then
    let kids ← names L n
    return ← put { kind := 1, text := text, n := 1, kids := kids }
  put { kind := 1, text := text }
def fix : Pm Nat := do
  let t ← next L
  let level ← kind L 2
  if 9 < level.n then fail 4
  let side : Int := if isX t ⟨#[105, 110, 102, 105, 120, 108]⟩ then 0 else if isX t ⟨#[105, 110, 102, 105, 120, 114]⟩ then 1 else 2
  put { kind := 4, text := (← kind L 3).text, n := 10 * side + level.n }
def data (n : Nat) : Pm Nat := do
  let _ ← next L
  let name := (← kind L 1).text
  let kids ← params L n
  let _ ← want L 4 ⟨#[61]⟩
  loop (fun (a : List Nat) => do
    let c ← kind L 1
    let args ← loop (fun (b : List Nat) => do
      if !(← beginsT L) then return .inr b
      return .inl (b ++ [← atype L n])) n []
    let y ← put { kind := 6, text := c.text, kids := args }
    if !(← key L ⟨#[124]⟩) then return .inr (← put { kind := 5, text := name, kids := a ++ [y] })
    let _ ← next L
    return .inl (a ++ [y])) n kids
def klass (n : Nat) : Pm Nat := do
  let _ ← next L
  let name := (← kind L 1).text
  let v ← kind L 0
  let y ← put { kind := 14, text := v.text }
  let kids ← loop (fun (a : List Nat × Bool) => do
    let more ← if a.2 then key L ⟨#[58]⟩ else is L 5 ⟨#[44]⟩
    if !more then return .inr a.1
    let _ ← next L
    let c ← kind L 1
    return .inl (a.1 ++ [← put { kind := 3, text := c.text }], false)) n ([y], true)
  let _ ← want L 4 ⟨#[119, 104, 101, 114, 101]⟩
  let l ← block L n (sig L n)
  put { kind := 9, text := name, kids := kids ++ l }
def instance_ (n : Nat) : Pm Nat := do
  let _ ← next L
  let ps ← preds L n
  let name := (← kind L 1).text
  let y ← atype L n
  let _ ← want L 4 ⟨#[119, 104, 101, 114, 101]⟩
  let l ← block L n (onlyDef L n)
  put { kind := 10, text := name, kids := [y] ++ ps ++ l }
def decl (n : Nat) : Pm Nat := do
  let t ← tok L
  if t.kind != 4 then return ← exprs L n .defn
  if isX t ⟨#[105, 109, 112, 111, 114, 116]⟩ then return ← imports L n
  if isX t ⟨#[101, 120, 112, 111, 114, 116]⟩ then
    let _ ← next L
    let kids ← names L n
    return ← put { kind := 2, kids := kids }
  if isX t ⟨#[105, 110, 102, 105, 120, 108]⟩ || isX t ⟨#[105, 110, 102, 105, 120, 114]⟩ || isX t ⟨#[105, 110, 102, 105, 120]⟩ then return ← fix L
  if isX t ⟨#[100, 97, 116, 97]⟩ then return ← data L n
  if isX t ⟨#[101, 102, 102, 101, 99, 116]⟩ then
    let _ ← next L
    let name := (← kind L 1).text
    let _ ← want L 4 ⟨#[119, 104, 101, 114, 101]⟩
    let kids ← block L n (opSig L n)
    return ← put { kind := 7, text := name, kids := kids }
  if isX t ⟨#[99, 108, 97, 115, 115]⟩ then return ← klass L n
  if isX t ⟨#[105, 110, 115, 116, 97, 110, 99, 101]⟩ then return ← instance_ L n
  fail 5
def recovered (n : Nat) (opn : Int) : Pm Unit := loop (fun _ s =>
  let t := tokAt L s.pos
  if t.kind == 9 then .ok (.inr ()) s
  else if s.opn ≤ opn ∧ (opens t < 0 ∨ t.kind = 8 ∨ isB t 5 ⟨#[59]⟩ = true) then .ok (.inr ()) s
  else (do
    let _ ← next L
    return .inl () : Pm (Unit ⊕ Unit)) s) n ()
def guarded (n : Nat) : Pm (Option Nat) := fun s => match decl L n s with
  | .ok x s' => .ok (some x) s'
  | .no s' => (do
    recovered L n s.opn
    return none : Pm (Option Nat)) { s' with nodes := s'.nodes.take s.nodes.length, deep := 0 }
  | .out => .out
def module (n : Nat) : Pm Unit := do
  let _ ← want L 4 ⟨#[109, 111, 100, 117, 108, 101]⟩
  let name := (← kind L 1).text
  let _ ← want L 4 ⟨#[119, 104, 101, 114, 101]⟩
  let explicit ← is L 5 ⟨#[123]⟩
  let _ ← if explicit then next L else kind L 6
  loop (fun (kids : List Nat) => do
    let t ← tok L
    if t.kind == 9 || !explicit && t.kind == 7 || explicit && isB t 5 ⟨#[125]⟩ then
      if t.kind != 9 then let _ ← next L
      let _ ← kind L 9
      let _ ← put { kind := 0, text := name, kids := kids }
      return .inr ()
    if t.kind == 8 || isB t 5 ⟨#[59]⟩ then
      let _ ← next L
      return .inl kids
    let (before, opn) ← (fun s => .ok (s.pos, s.opn) s : Pm (Nat × Int))
    match ← guarded L n with
    | some x => do
      let u ← tok L
      if u.kind != 8 && u.kind != 7 && u.kind != 9 && !isB u 5 ⟨#[59]⟩ && !isB u 5 ⟨#[125]⟩ then
        (fun s => .ok () { s with bad := s.bad ++ [(5, s.pos)] } : Pm Unit)
        recovered L n opn
      return .inl (kids ++ [x])
    | none => do
      let now ← (fun s => .ok s.pos s : Pm Nat)
      if now == before || (← tok L).kind == 7 && explicit then let _ ← next L
      return .inl kids) n []
def depths : List Nd → List Nat → List Nat
  | [], d => d
  | x :: t, d => depths t (d ++ [(x.kids.foldl (fun m j => max m (d.getD j 0)) 0) + 1])
def depth (t : List Nd) : Nat := (depths t []).foldl max 0
def parse (n : Nat) : Option (List Nd ⊕ List (Int × Nat)) := match module L n ⟨0, 0, 0, [], []⟩ with
  | .ok _ s =>
    let bad := if 400 < depth s.nodes then s.bad ++ [(2, 0)] else s.bad
    if bad = [] then some (.inl s.nodes) else some (.inr bad)
  | .no s => some (.inr s.bad)
  | .out => none
end
end Go.Proofs.YtcjoapmodaioiaaGreatDoor.Pa
