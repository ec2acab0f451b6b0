/- Parse: the grammar as a function of tokens; with so many steps. No program in sight. (Printed by tools/genps.py.). Scope: the renaming as a function of trees. No program in sight. -/
import Derived.WalkKit
open SizeOf renaming sizeOf → dR
open UInt8 renaming ofNat → ar
set_option linter.unusedSimpArgs false
set_option linter.unusedVariables false
namespace Go.Proofs.YticlaccbodpkeaaGreatDoor
theorem Om {p : Prop} (h : p := by omega) : p := h
theorem de {p : Prop} (h : p := by decide) : p := h
theorem Sm {p : Prop} (h : p := by simp) : p := h
theorem Mt {p : Prop} (h : p := by simp only [SR.me]; omega) : p := h
theorem Rl {p : Prop} (h : p := by rfl) : p := h
theorem Kr {p : Prop} (h : p := by kernel_rfl) : p := h
theorem So {p : Prop} (h : p := by simp [Op.operands]) : p := h
theorem Sq {p : Prop} (h : p := by simp; omega) : p := h
theorem Tv {p : Prop} (h : p := by trivial) : p := h
theorem SS {p : Prop} (h : p := by simp only [List.length_append, List.length_cons, List.length_nil]; omega) : p := h
theorem He {p : Prop} (h : p := by intro e he; first | exact hE e he | exact ⟨True.intro, hE e he⟩) : p := h
theorem S0 {p : Prop} (h : p := by simp [Op.operands, Call.operands]) : p := h
theorem Mk {p : Prop} (h : p := by simp only [SR.me, Nd.kids] at hm ⊢; omega) : p := h
theorem Fo {p : Prop} (h : p := by first | omega | (simp only[gJ,qE];omega)) : p := h
theorem iN {c : Prop} {h : Decidable c} (a : ¬c) {α : Sort _} {t e : α} : ite c t e = e := if_neg a
theorem iP {c : Prop} {h : Decidable c} (hc : c) {α : Sort _} {t e : α} : ite c t e = t := if_pos hc
theorem iT {α : Sort _} {x : Decidable True} (t e : α) : ite True t e = t := if_true t e
theorem iF {α : Sort _} {x : Decidable False} (t e : α) : ite False t e = e := if_false t e
theorem aV {p q : Prop} (k : q) (e : q -> p := by
  intro k
  conv in (rF _ _).body => reduce
  conv in (rF _ _).res => reduce
  exact k) : p := e k
theorem gK {A B C : Prop} (a : A) (b : B) (c : C) : A /\ B /\ C := ⟨a, b, c⟩
theorem gy {A B C D : Prop} (a : A) (b : B) (c : C) (d : D) : A /\ B /\ C /\ D := ⟨a, b, c, d⟩
theorem iD {A B C D E : Prop} (a : A) (b : B) (c : C) (d : D) (e : E) : A /\ B /\ C /\ D /\ E := ⟨a, b, c, d, e⟩
theorem rR {A B C D E F : Prop} (a : A) (b : B) (c : C) (d : D) (e : E) (f : F) : A /\ B /\ C /\ D /\ E /\ F := ⟨a, b, c, d, e, f⟩
theorem rT {A B C D E F G : Prop} (a : A) (b : B) (c : C) (d : D) (e : E) (f : F) (g : G) : A /\ B /\ C /\ D /\ E /\ F /\ G := ⟨a, b, c, d, e, f, g⟩
theorem oA {A B C D E F G H : Prop} (a : A) (b : B) (c : C) (d : D) (e : E) (f : F) (g : G) (h : H) : A /\ B /\ C /\ D /\ E /\ F /\ G /\ H := ⟨a, b, c, d, e, f, g, h⟩
theorem Eh {A B C D E F G H I : Prop} (a : A) (b : B) (c : C) (d : D) (e : E) (f : F) (g : G) (h : H) (i : I) : A /\ B /\ C /\ D /\ E /\ F /\ G /\ H /\ I := ⟨a, b, c, d, e, f, g, h, i⟩
theorem xf {A B C D E F G H I J : Prop} (a : A) (b : B) (c : C) (d : D) (e : E) (f : F) (g : G) (h : H) (i : I) (j : J) : A /\ B /\ C /\ D /\ E /\ F /\ G /\ H /\ I /\ J := ⟨a, b, c, d, e, f, g, h, i, j⟩
theorem Sb {A B C D E F G H I J K : Prop} (a : A) (b : B) (c : C) (d : D) (e : E) (f : F) (g : G) (h : H) (i : I) (j : J) (k : K) : A /\ B /\ C /\ D /\ E /\ F /\ G /\ H /\ I /\ J /\ K := ⟨a, b, c, d, e, f, g, h, i, j, k⟩
theorem yB {A B C D E F G H I J K L : Prop} (a : A) (b : B) (c : C) (d : D) (e : E) (f : F) (g : G) (h : H) (i : I) (j : J) (k : K) (l : L) : A /\ B /\ C /\ D /\ E /\ F /\ G /\ H /\ I /\ J /\ K /\ L := ⟨a, b, c, d, e, f, g, h, i, j, k, l⟩
theorem agC {A B C D E F G H I J K L M : Prop} (a : A) (b : B) (c : C) (d : D) (e : E) (f : F) (g : G) (h : H) (i : I) (j : J) (k : K) (l : L) (m : M) : A /\ B /\ C /\ D /\ E /\ F /\ G /\ H /\ I /\ J /\ K /\ L /\ M := ⟨a, b, c, d, e, f, g, h, i, j, k, l, m⟩
theorem NJ {A B C D E F G H I J K L M N : Prop} (a : A) (b : B) (c : C) (d : D) (e : E) (f : F) (g : G) (h : H) (i : I) (j : J) (k : K) (l : L) (m : M) (n : N) : A /\ B /\ C /\ D /\ E /\ F /\ G /\ H /\ I /\ J /\ K /\ L /\ M /\ N := ⟨a, b, c, d, e, f, g, h, i, j, k, l, m, n⟩
theorem Sc {A B C D E F G H I J K L M N O : Prop} (a : A) (b : B) (c : C) (d : D) (e : E) (f : F) (g : G) (h : H) (i : I) (j : J) (k : K) (l : L) (m : M) (n : N) (o : O) : A /\ B /\ C /\ D /\ E /\ F /\ G /\ H /\ I /\ J /\ K /\ L /\ M /\ N /\ O := ⟨a, b, c, d, e, f, g, h, i, j, k, l, m, n, o⟩
theorem arG {A B C D E F G H I J K L M N O P : Prop} (a : A) (b : B) (c : C) (d : D) (e : E) (f : F) (g : G) (h : H) (i : I) (j : J) (k : K) (l : L) (m : M) (n : N) (o : O) (p : P) : A /\ B /\ C /\ D /\ E /\ F /\ G /\ H /\ I /\ J /\ K /\ L /\ M /\ N /\ O /\ P := ⟨a, b, c, d, e, f, g, h, i, j, k, l, m, n, o, p⟩
theorem agD {A B C D E F G H I J K L M N O P Q : Prop} (a : A) (b : B) (c : C) (d : D) (e : E) (f : F) (g : G) (h : H) (i : I) (j : J) (k : K) (l : L) (m : M) (n : N) (o : O) (p : P) (q : Q) : A /\ B /\ C /\ D /\ E /\ F /\ G /\ H /\ I /\ J /\ K /\ L /\ M /\ N /\ O /\ P /\ Q := ⟨a, b, c, d, e, f, g, h, i, j, k, l, m, n, o, p, q⟩
theorem agF {A B C D E F G H I J K L M N O P Q R : Prop} (a : A) (b : B) (c : C) (d : D) (e : E) (f : F) (g : G) (h : H) (i : I) (j : J) (k : K) (l : L) (m : M) (n : N) (o : O) (p : P) (q : Q) (r : R) : A /\ B /\ C /\ D /\ E /\ F /\ G /\ H /\ I /\ J /\ K /\ L /\ M /\ N /\ O /\ P /\ Q /\ R := ⟨a, b, c, d, e, f, g, h, i, j, k, l, m, n, o, p, q, r⟩
theorem arH {A B C D E F G H I J K L M N O P Q R S : Prop} (a : A) (b : B) (c : C) (d : D) (e : E) (f : F) (g : G) (h : H) (i : I) (j : J) (k : K) (l : L) (m : M) (n : N) (o : O) (p : P) (q : Q) (r : R) (s : S) : A /\ B /\ C /\ D /\ E /\ F /\ G /\ H /\ I /\ J /\ K /\ L /\ M /\ N /\ O /\ P /\ Q /\ R /\ S := ⟨a, b, c, d, e, f, g, h, i, j, k, l, m, n, o, p, q, r, s⟩
theorem YM {A B C D E F G H I J K L M N O P Q R S T : Prop} (a : A) (b : B) (c : C) (d : D) (e : E) (f : F) (g : G) (h : H) (i : I) (j : J) (k : K) (l : L) (m : M) (n : N) (o : O) (p : P) (q : Q) (r : R) (s : S) (t : T) : A /\ B /\ C /\ D /\ E /\ F /\ G /\ H /\ I /\ J /\ K /\ L /\ M /\ N /\ O /\ P /\ Q /\ R /\ S /\ T := ⟨a, b, c, d, e, f, g, h, i, j, k, l, m, n, o, p, q, r, s, t⟩
theorem agG {A B C D E F G H I J K L M N O P Q R S T U : Prop} (a : A) (b : B) (c : C) (d : D) (e : E) (f : F) (g : G) (h : H) (i : I) (j : J) (k : K) (l : L) (m : M) (n : N) (o : O) (p : P) (q : Q) (r : R) (s : S) (t : T) (u : U) : A /\ B /\ C /\ D /\ E /\ F /\ G /\ H /\ I /\ J /\ K /\ L /\ M /\ N /\ O /\ P /\ Q /\ R /\ S /\ T /\ U := ⟨a, b, c, d, e, f, g, h, i, j, k, l, m, n, o, p, q, r, s, t, u⟩
theorem agH {A B C D E F G H I J K L M N O P Q R S T U V : Prop} (a : A) (b : B) (c : C) (d : D) (e : E) (f : F) (g : G) (h : H) (i : I) (j : J) (k : K) (l : L) (m : M) (n : N) (o : O) (p : P) (q : Q) (r : R) (s : S) (t : T) (u : U) (v : V) : A /\ B /\ C /\ D /\ E /\ F /\ G /\ H /\ I /\ J /\ K /\ L /\ M /\ N /\ O /\ P /\ Q /\ R /\ S /\ T /\ U /\ V := ⟨a, b, c, d, e, f, g, h, i, j, k, l, m, n, o, p, q, r, s, t, u, v⟩
namespace Can
section
structure PT where
 kind:Int
 line:Int
 text:List UInt8
inductive Nd where
 | mk (kind:Nat) (line:Int) (text:List UInt8) (op:Nat) (kids:List Nd)
def Nd.kind:Nd->Nat
 | .mk k _ _ _ _=>k
def Nd.line:Nd->Int
 | .mk _ l _ _ _=>l
def Nd.text:Nd->List UInt8
 | .mk _ _ x _ _=>x
def Nd.op:Nd->Nat
 | .mk _ _ _ o _=>o
def Nd.kids:Nd->List Nd
 | .mk _ _ _ _ ks=>ks
abbrev nd(k:Nat)(l:Int)(kids:List Nd):Nd:= .mk k l [] 0 kids
def ay (ts:List PT)(i:Nat):PT:=match ts[i]? with
 | some t=>t
 | none=>match ts.getLast? with
   | some t=>⟨0,t.line,[]⟩
   | none=>⟨0,0,[]⟩
def yC:List UInt8->Bool
 | c::_=>decide ((65<=c.toNat/\c.toNat<=90)\/(97<=c.toNat/\c.toNat<=122))
 | []=>false
def ap (ts:List PT)(i:Nat)(s:List UInt8):Bool:=decide (((ay ts i).kind=8\/(ay ts i).kind=9)/\(ay ts i).text=s/\yC s=decide ((ay ts i).kind=8))
abbrev Ei:List UInt8:= [ar 108,ar 97,ar 109,ar 98,ar 100,ar 97]
abbrev nD:List UInt8:= [ar 58]
abbrev Sd:List UInt8:= [ar 105,ar 102]
abbrev YN:List UInt8:= [ar 101,ar 108,ar 115,ar 101]
abbrev agI:List UInt8:= [ar 111,ar 114]
abbrev agJ:List UInt8:= [ar 97,ar 110,ar 100]
abbrev uR:List UInt8:= [ar 110,ar 111,ar 116]
abbrev Se:List UInt8:= [ar 61,ar 61]
abbrev Sf:List UInt8:= [ar 33,ar 61]
abbrev Sg:List UInt8:= [ar 60]
abbrev Sh:List UInt8:= [ar 60,ar 61]
abbrev Si:List UInt8:= [ar 62]
abbrev Sj:List UInt8:= [ar 62,ar 61]
abbrev Ch:List UInt8:= [ar 105,ar 110]
abbrev Sk:List UInt8:= [ar 105,ar 115]
abbrev Ci:List UInt8:= [ar 43]
abbrev Cj:List UInt8:= [ar 45]
abbrev agK:List UInt8:= [ar 42]
abbrev agM:List UInt8:= [ar 47]
abbrev agN:List UInt8:= [ar 47,ar 47]
abbrev agO:List UInt8:= [ar 37]
abbrev agP:List UInt8:= [ar 42,ar 42]
abbrev agQ:List UInt8:= [ar 46]
abbrev An:List UInt8:= [ar 40]
abbrev Ck:List UInt8:= [ar 41]
abbrev Ej:List UInt8:= [ar 91]
abbrev GP:List UInt8:= [ar 93]
abbrev GQ:List UInt8:= [ar 123]
abbrev NK:List UInt8:= [ar 125]
abbrev xg:List UInt8:= [ar 44]
abbrev GR:List UInt8:= [ar 78,ar 111,ar 110,ar 101]
abbrev GU:List UInt8:= [ar 84,ar 114,ar 117,ar 101]
abbrev GV:List UInt8:= [ar 70,ar 97,ar 108,ar 115,ar 101]
abbrev GW:List UInt8:= [ar 102,ar 111,ar 114]
abbrev Sn:List UInt8:= [ar 61]
abbrev Sp:List UInt8:= [ar 43,ar 61]
abbrev Sr:List UInt8:= [ar 45,ar 61]
abbrev Ss:List UInt8:= [ar 42,ar 61]
abbrev St:List UInt8:= [ar 47,ar 61]
abbrev Su:List UInt8:= [ar 47,ar 47,ar 61]
abbrev Sv:List UInt8:= [ar 37,ar 61]
abbrev Sw:List UInt8:= [ar 42,ar 42,ar 61]
abbrev agR:List UInt8:= [ar 112,ar 97,ar 115,ar 115]
abbrev agS:List UInt8:= [ar 98,ar 114,ar 101,ar 97,ar 107]
abbrev agT:List UInt8:= [ar 99,ar 111,ar 110,ar 116,ar 105,ar 110,ar 117,ar 101]
abbrev agU:List UInt8:= [ar 114,ar 101,ar 116,ar 117,ar 114,ar 110]
abbrev agV:List UInt8:= [ar 114,ar 97,ar 105,ar 115,ar 101]
abbrev agW:List UInt8:= [ar 103,ar 108,ar 111,ar 98,ar 97,ar 108]
abbrev agX:List UInt8:= [ar 110,ar 111,ar 110,ar 108,ar 111,ar 99,ar 97,ar 108]
abbrev agY:List UInt8:= [ar 97,ar 115,ar 115,ar 101,ar 114,ar 116]
abbrev YO:List UInt8:= [ar 121,ar 105,ar 101,ar 108,ar 100]
abbrev agZ:List UInt8:= [ar 100,ar 101,ar 108]
abbrev ag0:List UInt8:= [ar 101,ar 108,ar 105,ar 102]
abbrev ag1:List UInt8:= [ar 101,ar 120,ar 99,ar 101,ar 112,ar 116]
abbrev YP:List UInt8:= [ar 97,ar 115]
abbrev ag2:List UInt8:= [ar 102,ar 105,ar 110,ar 97,ar 108,ar 108,ar 121]
abbrev ag3:List UInt8:= [ar 119,ar 104,ar 105,ar 108,ar 101]
abbrev ag4:List UInt8:= [ar 100,ar 101,ar 102]
abbrev ag5:List UInt8:= [ar 99,ar 108,ar 97,ar 115,ar 115]
abbrev ag6:List UInt8:= [ar 116,ar 114,ar 121]
abbrev ag7:List UInt8:= [ar 119,ar 105,ar 116,ar 104]
def iX (ts:List PT)(i:Nat):Bool:=decide (4<=(ay ts i).kind/\(ay ts i).kind<=7)||ap ts i Ei||ap ts i uR||ap ts i GR||ap ts i GU||ap ts i GV||ap ts i Ci||ap ts i Cj||ap ts i An||ap ts i Ej||ap ts i GQ
abbrev PR:=Option (Except Nat (List Nd×Nat))
def pb (r:PR)(k:List Nd->Nat->PR):PR:=match r with
 | none=>none
 | some (.error e)=>some (.error e)
 | some (.ok (l,i))=>k l i
def bR (n:Nd)(i:Nat):PR:=some (.ok ([n],i))
def bF (r:PR)(k:Nd->Nat->PR):PR:=pb r λl i=>match l with
 | [n]=>k n i
 | _=>none
def gV(ts:List PT)(s:List UInt8)(i:Nat)(k:Nat->PR):PR:=if ap ts i s=true then k (i+1) else some (.error i)
def mS(ts:List PT)(kd:Int)(i:Nat)(k:List UInt8->Nat->PR):PR:=if (ay ts i).kind=kd then k (ay ts i).text (i+1) else some (.error i)
def yD(n:Nd):Bool:=decide (n.kind=36\/n.kind=45\/n.kind=46)
mutual
def gz:Nd->Bool
 | .mk k _ _ _ ks=>if k=52\/k=51 then kz ks && !ks.isEmpty else decide (k=36\/k=45\/k=46)
def kz:List Nd->Bool
 | []=>true
 | n::ks=>gz n&&kz ks
end
def jk (ts:List PT)(i:Nat):Except Nat (Nat×Nat):=
 if ap ts i Se=true then .ok (1,i+1) else if ap ts i Sf=true then .ok (2,i+1) else if ap ts i Sg=true then .ok (3,i+1) else if ap ts i Sh=true then .ok (4,i+1)
 else if ap ts i Si=true then .ok (5,i+1) else if ap ts i Sj=true then .ok (6,i+1) else if ap ts i Ch=true then .ok (7,i+1)
 else if ap ts i uR=true then (if ap ts (i+1) Ch=true then .ok (8,i+2) else .error (i+1))
 else if ap ts i Sk=true then (if ap ts (i+1) uR=true then .ok (10,i+2) else .ok (9,i+1)) else .ok (0,i)
def j7 (ts:List PT)(i:Nat):Nat:=if ap ts i Sp=true then 1 else if ap ts i Sr=true then 2 else if ap ts i Ss=true then 3 else if ap ts i St=true then 4 else if ap ts i Su=true then 5 else if ap ts i Sv=true then 6 else if ap ts i Sw=true then 7 else 0
def GY(k:Int):Nat:=if k=5 then 30 else if k=6 then 31 else if k=7 then 32 else 36
def Js(l:Int):List Nd->Int
 | n::_=>n.line
 | []=>l
inductive NT where
 | expr | or | and | not | compare | arith | term | rU | primary | atom | exprs | one | places | simple | plain | value | block | stmt
 | params (close:List UInt8) (line:Int) (acc:List Nd)
 | row (close:List UInt8) (acc:List Nd)
 | vX (line:Int) (acc:List Nd)
 | Ao (n:Nd) | Ap (n:Nd) | cmpL (n:Nd) (acc:List Nd) | yE (n:Nd) | vY (n:Nd) | xh (n:Nd) | index (n:Nd)
 | clauses (acc:List Nd)
 | list (line:Int) | yF (line:Int) | yG (line:Int) (acc:List Nd)
 | placesL (line:Int) (acc:List Nd)
 | names (kind:Nat) (line:Int) (acc:List Nd)
 | maybe (kind:Nat) (line:Int) (all:Bool)
 | mg (line:Int) (acc:List Nd)
 | yH (acc:List Nd)
 | ifs (line:Int) | tries (line:Int) | pV (acc:List Nd) | sU (line:Int) (acc:List Nd)
 | top (acc:List Nd)
def gr (ts:List PT):Nat->NT->Nat->PR
 | 0,_,_=>none
 | f+1, .expr,i=>if ap ts i Ei=true then
     bF (gr ts f (.params nD (ay ts i).line []) (i+1)) λp i1=>gV ts nD i1 λi2=>bF (gr ts f .expr i2) λe i3=>bR (nd 50 (ay ts i).line [p,e]) i3
    else bF (gr ts f .or i) λa i1=>if ap ts i1 Sd=true then
     bF (gr ts f .or (i1+1)) λc i2=>gV ts YN i2 λi3=>bF (gr ts f .expr i3) λe i4=>bR (nd 49 a.line [c,a,e]) i4
    else bR a i1
 | f+1, .or,i=>bF (gr ts f .and i) λn i1=>gr ts f (.Ao n) i1
 | f+1, .Ao n,i=>if ap ts i agI=true then bF (gr ts f .and (i+1)) λm i1=>gr ts f (.Ao (nd 40 n.line [n,m])) i1 else bR n i
 | f+1, .and,i=>bF (gr ts f .not i) λn i1=>gr ts f (.Ap n) i1
 | f+1, .Ap n,i=>if ap ts i agJ=true then bF (gr ts f .not (i+1)) λm i1=>gr ts f (.Ap (nd 39 n.line [n,m])) i1 else bR n i
 | f+1, .not,i=>if ap ts i uR=true then bF (gr ts f .not (i+1)) λn i1=>bR (nd 41 (ay ts i).line [n]) i1 else gr ts f .compare i
 | f+1, .compare,i=>bF (gr ts f .arith i) λn i1=>gr ts f (.cmpL n []) i1
 | f+1, .cmpL n acc,i=>match jk ts i with
   | .error e=>some (.error e)
   | .ok (0,_)=>bR (if acc.isEmpty then n else nd 42 n.line (n::acc)) i
   | .ok (op+1,i1)=>bF (gr ts f .arith i1) λm i2=>gr ts f (.cmpL n (acc++ [.mk 43 (ay ts i).line [] (op+1) [m]])) i2
 | f+1, .arith,i=>bF (gr ts f .term i) λn i1=>gr ts f (.yE n) i1
 | f+1, .yE n,i=>if ap ts i Ci=true then bF (gr ts f .term (i+1)) λm i1=>gr ts f (.yE (.mk 37 n.line [] 1 [n,m])) i1
    else if ap ts i Cj=true then bF (gr ts f .term (i+1)) λm i1=>gr ts f (.yE (.mk 37 n.line [] 2 [n,m])) i1 else bR n i
 | f+1, .term,i=>bF (gr ts f .rU i) λn i1=>gr ts f (.vY n) i1
 | f+1, .vY n,i=>if ap ts i agK=true then bF (gr ts f .rU (i+1)) λm i1=>gr ts f (.vY (.mk 37 n.line [] 3 [n,m])) i1
    else if ap ts i agM=true then bF (gr ts f .rU (i+1)) λm i1=>gr ts f (.vY (.mk 37 n.line [] 4 [n,m])) i1
    else if ap ts i agN=true then bF (gr ts f .rU (i+1)) λm i1=>gr ts f (.vY (.mk 37 n.line [] 5 [n,m])) i1
    else if ap ts i agO=true then bF (gr ts f .rU (i+1)) λm i1=>gr ts f (.vY (.mk 37 n.line [] 6 [n,m])) i1 else bR n i
 | f+1, .rU,i=>if ap ts i Ci=true then bF (gr ts f .rU (i+1)) λn i1=>bR (.mk 38 (ay ts i).line [] 2 [n]) i1
    else if ap ts i Cj=true then bF (gr ts f .rU (i+1)) λn i1=>bR (.mk 38 (ay ts i).line [] 1 [n]) i1
    else bF (gr ts f .primary i) λn i1=>if ap ts i1 agP=true then bF (gr ts f .rU (i1+1)) λm i2=>bR (.mk 37 n.line [] 7 [n,m]) i2 else bR n i1
 | f+1, .primary,i=>bF (gr ts f .atom i) λn i1=>gr ts f (.xh n) i1
 | f+1, .xh n,i=>if ap ts i agQ=true then mS ts 4 (i+1) λs i1=>gr ts f (.xh (.mk 45 n.line s 0 [n])) i1
    else if ap ts i An=true then pb (gr ts f (.row Ck []) (i+1)) λl i1=>gV ts Ck i1 λi2=>gr ts f (.xh (nd 44 n.line (n::l))) i2
    else if ap ts i Ej=true then bF (gr ts f (.index n) (i+1)) λm i1=>gV ts GP i1 λi2=>gr ts f (.xh m) i2 else bR n i
 | f+1, .index n,i=>if ap ts i nD=true then gV ts nD i λi2=>if ap ts i2 GP=true then bR (nd 47 n.line [n,nd 48 n.line [],nd 48 n.line []]) i2
      else bF (gr ts f .expr i2) λhi i3=>bR (nd 47 n.line [n,nd 48 n.line [],hi]) i3
    else bF (gr ts f .expr i) λlo i1=>if ap ts i1 xg=true then bF (gr ts f (.vX lo.line [lo]) i1) λm i2=>bR (nd 46 n.line [n,m]) i2
     else if ap ts i1 nD=true then (if ap ts (i1+1) GP=true then bR (nd 47 n.line [n,lo,nd 48 n.line []]) (i1+1)
      else bF (gr ts f .expr (i1+1)) λhi i3=>bR (nd 47 n.line [n,lo,hi]) i3) else bR (nd 46 n.line [n,lo]) i1
 | f+1, .atom,i=>if 4<=(ay ts i).kind/\(ay ts i).kind<=7 then bR (.mk (GY (ay ts i).kind) (ay ts i).line (ay ts i).text 0 []) (i+1)
    else if ap ts i GR=true then bR (nd 33 (ay ts i).line []) (i+1) else if ap ts i GU=true then bR (nd 34 (ay ts i).line []) (i+1)
    else if ap ts i GV=true then bR (nd 35 (ay ts i).line []) (i+1)
    else if ap ts i An=true then (if ap ts (i+1) Ck=true then bR (nd 52 (ay ts i).line []) (i+2) else bF (gr ts f .exprs (i+1)) λn i1=>gV ts Ck i1 λi2=>bR n i2)
    else if ap ts i Ej=true then bF (gr ts f (.list (ay ts i).line) (i+1)) λn i1=>gV ts GP i1 λi2=>bR n i2
    else if ap ts i GQ=true then bF (gr ts f (.yF (ay ts i).line) (i+1)) λn i1=>gV ts NK i1 λi2=>bR n i2
    else some (.error i)
 | f+1, .exprs,i=>bF (gr ts f .expr i) λn i1=>if ap ts i1 xg=true then gr ts f (.vX n.line [n]) i1 else bR n i1
 | f+1, .vX l acc,i=>if ap ts i xg=true then (if iX ts (i+1)=true then bF (gr ts f .expr (i+1)) λe i1=>gr ts f (.vX l (acc++ [e])) i1 else bR (nd 52 l acc) (i+1)) else bR (nd 52 l acc) i
 | f+1, .row cl acc,i=>if ap ts i cl=true then some (.ok (acc,i)) else bF (gr ts f .expr i) λe i1=>if ap ts i1 xg=true then gr ts f (.row cl (acc++ [e])) (i1+1) else some (.ok (acc++ [e],i1))
 | f+1, .params cl l acc,i=>if ap ts i cl=true then bR (nd 23 l acc) i else mS ts 4 i λs i1=>if ap ts i1 xg=true then gr ts f (.params cl l (acc++ [.mk 36 (ay ts i).line s 0 []])) (i1+1) else bR (nd 23 l (acc++ [.mk 36 (ay ts i).line s 0 []])) i1
 | f+1, .clauses acc,i=>if ap ts i GW=true then bF (gr ts f .places (i+1)) λp i1=>gV ts Ch i1 λi2=>bF (gr ts f .or i2) λe i3=>gr ts f (.clauses (acc++ [nd 58 (ay ts i).line [p,e]])) i3
    else if ap ts i Sd=true then bF (gr ts f .or (i+1)) λe i1=>gr ts f (.clauses (acc++ [nd 59 (ay ts i).line [e]])) i1 else some (.ok (acc,i))
 | f+1, .list l,i=>if ap ts i GP=true then bR (nd 51 l []) i else bF (gr ts f .expr i) λe i1=>if ap ts i1 GW=true then pb (gr ts f (.clauses []) i1) λcs i2=>bR (nd 55 l (e::cs)) i2
    else if ap ts i1 xg=true then pb (gr ts f (.row GP []) (i1+1)) λr i2=>bR (nd 51 l (e::r)) i2 else bR (nd 51 l [e]) i1
 | f+1, .yF l,i=>if ap ts i NK=true then bR (nd 54 l []) i else bF (gr ts f .expr i) λe i1=>if ap ts i1 nD=true then
     bF (gr ts f .expr (i1+1)) λv i2=>if ap ts i2 GW=true then pb (gr ts f (.clauses []) i2) λcs i3=>bR (nd 57 l (e::v::cs)) i3 else gr ts f (.yG l [e,v]) i2
    else if ap ts i1 GW=true then pb (gr ts f (.clauses []) i1) λcs i2=>bR (nd 56 l (e::cs)) i2
    else if ap ts i1 xg=true then pb (gr ts f (.row NK []) (i1+1)) λr i2=>bR (nd 53 l (e::r)) i2 else bR (nd 53 l [e]) i1
 | f+1, .yG l acc,i=>if ap ts i xg=true then (if ap ts (i+1) NK=true then bR (nd 54 l acc) (i+1) else bF (gr ts f .expr (i+1)) λk i1=>gV ts nD i1 λi2=>bF (gr ts f .expr i2) λv i3=>gr ts f (.yG l (acc++ [k,v])) i3) else bR (nd 54 l acc) i
 | f+1, .one,i=>bF (gr ts f .primary i) λn i1=>if gz n=true then bR n i1 else some (.error i1)
 | f+1, .places,i=>bF (gr ts f .one i) λn i1=>if ap ts i1 xg=true then gr ts f (.placesL n.line [n]) i1 else bR n i1
 | f+1, .placesL l acc,i=>if ap ts i xg=true then (if iX ts (i+1)=true/\ap ts (i+1) Ci=false/\ap ts (i+1) Cj=false/\ap ts (i+1) uR=false/\ap ts (i+1) Ei=false then bF (gr ts f .one (i+1)) λe i1=>gr ts f (.placesL l (acc++ [e])) i1 else bR (nd 52 l acc) (i+1)) else bR (nd 52 l acc) i
 | f+1, .names k l acc,i=>mS ts 4 i λs i1=>if ap ts i1 xg=true then gr ts f (.names k l (acc++ [.mk 36 (ay ts i).line s 0 []])) (i1+1) else bR (nd k l (acc++ [.mk 36 (ay ts i).line s 0 []])) i1
 | f+1, .maybe k l all,i=>if iX ts i=true then bF (gr ts f (if all=true then .exprs else .expr) i) λe i1=>bR (nd k l [e]) i1 else bR (nd k l []) i
 | f+1, .value,i=>if ap ts i YO=true then gr ts f (.maybe 60 (ay ts i).line true) (i+1) else gr ts f .exprs i
 | f+1, .plain,i=>bF (gr ts f .exprs i) λn i1=>if ap ts i1 Sn=true then gr ts f (.mg n.line [n]) i1
    else if j7 ts i1=0 then bR (nd 2 n.line [n]) i1 else if yD n=true then bF (gr ts f .exprs (i1+1)) λm i2=>bR (.mk 4 n.line [] (j7 ts i1) [n,m]) i2 else some (.error i1)
 | f+1, .mg l acc,i=>if ap ts i Sn=true then (match acc.getLast? with
     | some n=>if gz n=true then bF (gr ts f .value (i+1)) λv i1=>gr ts f (.mg l (acc++ [v])) i1 else some (.error i)
     | none=>none) else bR (nd 3 l acc) i
 | f+1, .simple,i=>if ap ts i agR=true then bR (nd 11 (ay ts i).line []) (i+1) else if ap ts i agS=true then bR (nd 12 (ay ts i).line []) (i+1)
    else if ap ts i agT=true then bR (nd 13 (ay ts i).line []) (i+1) else if ap ts i agU=true then gr ts f (.maybe 10 (ay ts i).line true) (i+1)
    else if ap ts i agV=true then gr ts f (.maybe 14 (ay ts i).line false) (i+1) else if ap ts i agW=true then gr ts f (.names 17 (ay ts i).line []) (i+1)
    else if ap ts i agX=true then gr ts f (.names 18 (ay ts i).line []) (i+1) else if ap ts i agY=true then bF (gr ts f .expr (i+1)) λe i1=>bR (nd 20 (ay ts i).line [e]) i1
    else if ap ts i YO=true then bF (gr ts f (.maybe 60 (ay ts i).line true) (i+1)) λe i1=>bR (nd 2 (ay ts i).line [e]) i1
    else if ap ts i agZ=true then bF (gr ts f .primary (i+1)) λn i1=>if yD n=true then bR (nd 19 (ay ts i).line [n]) i1 else some (.error i1)
    else gr ts f .plain i
 | f+1, .block,i=>if (ay ts i).kind=1 then mS ts 2 (i+1) λ_ i1=>gr ts f (.yH []) i1 else bF (gr ts f .simple i) λn i1=>mS ts 1 i1 λ_ i2=>bR (nd 1 n.line [n]) i2
 | f+1, .yH acc,i=>bF (gr ts f .stmt i) λs i1=>if (ay ts i1).kind=3 then bR (nd 1 (Js 0 (acc++ [s])) (acc++ [s])) (i1+1) else gr ts f (.yH (acc++ [s])) i1
 | f+1, .ifs l,i=>bF (gr ts f .expr i) λc i1=>gV ts nD i1 λi2=>bF (gr ts f .block i2) λb i3=>if ap ts i3 ag0=true then
     bF (gr ts f (.ifs (ay ts i3).line) (i3+1)) λx i4=>bR (nd 5 l [c,b,nd 1 (ay ts i3).line [x]]) i4
    else if ap ts i3 YN=true then gV ts nD (i3+1) λi4=>bF (gr ts f .block i4) λe i5=>bR (nd 5 l [c,b,e]) i5 else bR (nd 5 l [c,b]) i3
 | f+1, .tries l,i=>gV ts nD i λi1=>bF (gr ts f .block i1) λb i2=>pb (gr ts f (.pV [b]) i2) λacc i3=>gr ts f (.sU l acc) i3
 | f+1, .pV acc,i=>if ap ts i ag1=true then (if ap ts (i+1) nD=true then bF (gr ts f .block (i+2)) λb i1=>some (.ok (acc++ [nd 21 (ay ts i).line [b]],i1))
     else bF (gr ts f .expr (i+1)) λe i1=>if ap ts i1 YP=true then mS ts 4 (i1+1) λs i2=>gV ts nD i2 λi3=>bF (gr ts f .block i3) λb i4=>gr ts f (.pV (acc++ [.mk 21 (ay ts i).line s 0 [e,b]])) i4
      else gV ts nD i1 λi3=>bF (gr ts f .block i3) λb i4=>gr ts f (.pV (acc++ [nd 21 (ay ts i).line [e,b]])) i4) else some (.ok (acc,i))
 | f+1, .sU l acc,i=>if ap ts i ag2=true then gV ts nD (i+1) λi1=>bF (gr ts f .block i1) λb i2=>bR (nd 15 l (acc++ [nd 22 (ay ts i).line [b]])) i2
    else if acc.length=1 then some (.error i) else bR (nd 15 l acc) i
 | f+1, .stmt,i=>if ap ts i Sd=true then gr ts f (.ifs (ay ts i).line) (i+1)
    else if ap ts i ag3=true then bF (gr ts f .expr (i+1)) λc i1=>gV ts nD i1 λi2=>bF (gr ts f .block i2) λb i3=>bR (nd 6 (ay ts i).line [c,b]) i3
    else if ap ts i GW=true then bF (gr ts f .places (i+1)) λp i1=>gV ts Ch i1 λi2=>bF (gr ts f .exprs i2) λe i3=>gV ts nD i3 λi4=>bF (gr ts f .block i4) λb i5=>bR (nd 7 (ay ts i).line [p,e,b]) i5
    else if ap ts i ag4=true then mS ts 4 (i+1) λs i1=>gV ts An i1 λi2=>bF (gr ts f (.params Ck (ay ts i).line []) i2) λp i3=>gV ts Ck i3 λi4=>gV ts nD i4 λi5=>bF (gr ts f .block i5) λb i6=>bR (.mk 8 (ay ts i).line s 0 [p,b]) i6
    else if ap ts i ag5=true then mS ts 4 (i+1) λs i1=>if ap ts i1 An=true then pb (gr ts f (.row Ck []) (i1+1)) λbs i2=>gV ts Ck i2 λi3=>gV ts nD i3 λi4=>bF (gr ts f .block i4) λb i5=>bR (.mk 9 (ay ts i).line s 0 [nd 24 (ay ts i).line bs,b]) i5
     else gV ts nD i1 λi4=>bF (gr ts f .block i4) λb i5=>bR (.mk 9 (ay ts i).line s 0 [nd 24 (ay ts i).line [],b]) i5
    else if ap ts i ag6=true then gr ts f (.tries (ay ts i).line) (i+1)
    else if ap ts i ag7=true then bF (gr ts f .expr (i+1)) λe i1=>if ap ts i1 YP=true then mS ts 4 (i1+1) λs i2=>gV ts nD i2 λi3=>bF (gr ts f .block i3) λb i4=>bR (.mk 16 (ay ts i).line s 0 [e,b]) i4
     else gV ts nD i1 λi3=>bF (gr ts f .block i3) λb i4=>bR (nd 16 (ay ts i).line [e,b]) i4
    else bF (gr ts f .simple i) λn i1=>mS ts 1 i1 λ_ i2=>bR n i2
 | f+1, .top acc,i=>if (ay ts i).kind=0 then some (.ok (acc,i)) else bF (gr ts f .stmt i) λs i1=>gr ts f (.top (acc++ [s])) i1
end
section
abbrev Bs:=List UInt8
mutual
def fy:Nd->List Bs
 | .mk k _ x _ ks=>if k=36 then [x] else if k=52\/k=51 then eE ks else []
def eE:List Nd->List Bs
 | []=> []
 | n::ks=>fy n++eE ks
end
def cC:List Nd->Nd
 | n::_=>n
 | []=> .mk 0 0 [] 0 []
def iE:List Nd->List Bs
 | []=> []
 | n::ks=>(if n.kind=58 then fy (cC n.kids) else [])++iE ks
def wo (ρ:Bs->Nat)(ps:List Nd):Bs->Nat:=λy=>if y∈ps.map Nd.text then 0 else ρ y
def wi (ρ:Bs->Nat)(own:List Bs)(c:Nat):Bs->Nat:=λy=>if y∈own then c else ρ y
variable (it:Nat->Bs)
mutual
def dw (ρ:Bs->Nat)(c:Nat):Nd->Nd×Nat
 | .mk k l x o ks=>if k=55\/k=56\/k=57 then
    let r:=fA (wi ρ (iE ks) (c+1)) ρ true (c+1) ks
    (.mk k l x o r.1,r.2)
   else
    let r:=jn (if k=8\/k=50 then wo ρ (cC ks).kids else ρ) c ks
    (.mk k l (if k=36/\0<ρ x then x++ [46]++it (ρ x) else x) o r.1,r.2)
def jn (ρ:Bs->Nat)(c:Nat):List Nd->List Nd×Nat
 | []=>([],c)
 | n::ks=>let a:=dw ρ c n;let r:=jn ρ a.2 ks;(a.1::r.1,r.2)
def fA (ρ ρ0:Bs->Nat)(first:Bool)(c:Nat):List Nd->List Nd×Nat
 | []=>([],c)
 | .mk k l x o [p,e]::ns=>if k=58/\first=true then
    let a:=dw ρ c p
    let b:=dw ρ0 a.2 e
    let r:=fA ρ ρ0 false b.2 ns
    (.mk k l x o [a.1,b.1]::r.1,r.2)
   else
    let a:=dw ρ c (.mk k l x o [p,e])
    let r:=fA ρ ρ0 first a.2 ns
    (a.1::r.1,r.2)
 | n::ns=>let a:=dw ρ c n;let r:=fA ρ ρ0 first a.2 ns;(a.1::r.1,r.2)
end
mutual
def YQ (deep:Nat):Nd->Nd->Bool
 | .mk k l x o ks, .mk k' l' x' o' tV=>decide (k=k')&&decide (l=l')&&decide (o=o')&&decide (ks.length=tV.length) &&
   (decide (x=x')||(decide (k=36)&&decide (0<(if k=55\/k=56\/k=57 then deep+1 else deep))&&decide (x.length+2<=x'.length)&&decide (x'.take x.length=x)&&decide (x'[x.length]? = some 46)))&&NM (if k=55\/k=56\/k=57 then deep+1 else deep) ks tV
def NM (deep:Nat):List Nd->List Nd->Bool
 | n::ks,n'::tV=>YQ deep n n'&&NM deep ks tV
 | _,_=>true
end
def R1 (N:Nat):Prop:=∀(n:Nd) (ρ:Bs->Nat) (deep c:Nat),dR n<N->((∃y,0<ρ y)->0<deep)->YQ deep n (dw it ρ c n).1=true
def Sx (N:Nat):Prop:=∀(ks:List Nd) (ρ:Bs->Nat) (deep c:Nat),dR ks<N->((∃y,0<ρ y)->0<deep)->NM deep ks (jn it ρ c ks).1=true
def R3 (N:Nat):Prop:=∀(ks:List Nd) (ρ ρ0:Bs->Nat) (f:Bool) (deep c:Nat),dR ks<N->0<deep->NM deep ks (fA it ρ ρ0 f c ks).1=true
end
end Can
end Go.Proofs.YticlaccbodpkeaaGreatDoor
