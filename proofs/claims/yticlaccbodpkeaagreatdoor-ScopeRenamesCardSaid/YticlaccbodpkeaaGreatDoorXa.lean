/- Parse: the grammar as a function of tokens; with so many steps. No program in sight. (Printed by tools/genps.py.). Scope: the renaming as a function of trees. No program in sight. -/
import Derived.WalkKit
section
namespace Go.Proofs.YticlaccbodpkeaaGreatDoor
namespace Can
set_option linter.unusedSimpArgs false
set_option linter.unusedVariables false
structure PT where
 kind:Int
 line:Int
 text:List UInt8
inductive Nd where
 | mk (kind:Nat) (line:Int) (text:List UInt8) (op:Nat) (kids:List Nd)
def Nd.kind:Nd→Nat
 | .mk k _ _ _ _=>k
def Nd.line:Nd→Int
 | .mk _ l _ _ _=>l
def Nd.text:Nd→List UInt8
 | .mk _ _ x _ _=>x
def Nd.op:Nd→Nat
 | .mk _ _ _ o _=>o
def Nd.kids:Nd→List Nd
 | .mk _ _ _ _ ks=>ks
abbrev nd(k:Nat)(l:Int)(kids:List Nd):Nd:= .mk k l [] 0 kids
def nowT (ts:List PT)(i:Nat):PT:=match ts[i]? with
 | some t=>t
 | none=>match ts.getLast? with
   | some t=>⟨0,t.line,[]⟩
   | none=>⟨0,0,[]⟩
def isWd:List UInt8→Bool
 | c::_=>decide ((65≤c.toNat∧c.toNat≤90)∨(97≤c.toNat∧c.toNat≤122))
 | []=>false
def isT (ts:List PT)(i:Nat)(s:List UInt8):Bool:=decide (((nowT ts i).kind=8∨(nowT ts i).kind=9)∧(nowT ts i).text=s∧isWd s=decide ((nowT ts i).kind=8))
abbrev s_lambda:List UInt8:= [UInt8.ofNat 108,UInt8.ofNat 97,UInt8.ofNat 109,UInt8.ofNat 98,UInt8.ofNat 100,UInt8.ofNat 97]
abbrev s_colon:List UInt8:= [UInt8.ofNat 58]
abbrev s_if:List UInt8:= [UInt8.ofNat 105,UInt8.ofNat 102]
abbrev s_else:List UInt8:= [UInt8.ofNat 101,UInt8.ofNat 108,UInt8.ofNat 115,UInt8.ofNat 101]
abbrev s_or:List UInt8:= [UInt8.ofNat 111,UInt8.ofNat 114]
abbrev s_and:List UInt8:= [UInt8.ofNat 97,UInt8.ofNat 110,UInt8.ofNat 100]
abbrev s_not:List UInt8:= [UInt8.ofNat 110,UInt8.ofNat 111,UInt8.ofNat 116]
abbrev s_eqeq:List UInt8:= [UInt8.ofNat 61,UInt8.ofNat 61]
abbrev s_bne:List UInt8:= [UInt8.ofNat 33,UInt8.ofNat 61]
abbrev s_lt:List UInt8:= [UInt8.ofNat 60]
abbrev s_le:List UInt8:= [UInt8.ofNat 60,UInt8.ofNat 61]
abbrev s_gt:List UInt8:= [UInt8.ofNat 62]
abbrev s_ge:List UInt8:= [UInt8.ofNat 62,UInt8.ofNat 61]
abbrev s_in:List UInt8:= [UInt8.ofNat 105,UInt8.ofNat 110]
abbrev s_is:List UInt8:= [UInt8.ofNat 105,UInt8.ofNat 115]
abbrev s_plus:List UInt8:= [UInt8.ofNat 43]
abbrev s_minus:List UInt8:= [UInt8.ofNat 45]
abbrev s_star:List UInt8:= [UInt8.ofNat 42]
abbrev s_slash:List UInt8:= [UInt8.ofNat 47]
abbrev s_dslash:List UInt8:= [UInt8.ofNat 47,UInt8.ofNat 47]
abbrev s_pct:List UInt8:= [UInt8.ofNat 37]
abbrev s_dstar:List UInt8:= [UInt8.ofNat 42,UInt8.ofNat 42]
abbrev s_dot:List UInt8:= [UInt8.ofNat 46]
abbrev s_lpar:List UInt8:= [UInt8.ofNat 40]
abbrev s_rpar:List UInt8:= [UInt8.ofNat 41]
abbrev s_lbrk:List UInt8:= [UInt8.ofNat 91]
abbrev s_rbrk:List UInt8:= [UInt8.ofNat 93]
abbrev s_lbrc:List UInt8:= [UInt8.ofNat 123]
abbrev s_rbrc:List UInt8:= [UInt8.ofNat 125]
abbrev s_comma:List UInt8:= [UInt8.ofNat 44]
abbrev s_None:List UInt8:= [UInt8.ofNat 78,UInt8.ofNat 111,UInt8.ofNat 110,UInt8.ofNat 101]
abbrev s_True:List UInt8:= [UInt8.ofNat 84,UInt8.ofNat 114,UInt8.ofNat 117,UInt8.ofNat 101]
abbrev s_False:List UInt8:= [UInt8.ofNat 70,UInt8.ofNat 97,UInt8.ofNat 108,UInt8.ofNat 115,UInt8.ofNat 101]
abbrev s_for:List UInt8:= [UInt8.ofNat 102,UInt8.ofNat 111,UInt8.ofNat 114]
abbrev s_asg:List UInt8:= [UInt8.ofNat 61]
abbrev s_plusA:List UInt8:= [UInt8.ofNat 43,UInt8.ofNat 61]
abbrev s_minusA:List UInt8:= [UInt8.ofNat 45,UInt8.ofNat 61]
abbrev s_starA:List UInt8:= [UInt8.ofNat 42,UInt8.ofNat 61]
abbrev s_slashA:List UInt8:= [UInt8.ofNat 47,UInt8.ofNat 61]
abbrev s_dslashA:List UInt8:= [UInt8.ofNat 47,UInt8.ofNat 47,UInt8.ofNat 61]
abbrev s_pctA:List UInt8:= [UInt8.ofNat 37,UInt8.ofNat 61]
abbrev s_dstarA:List UInt8:= [UInt8.ofNat 42,UInt8.ofNat 42,UInt8.ofNat 61]
abbrev s_pass:List UInt8:= [UInt8.ofNat 112,UInt8.ofNat 97,UInt8.ofNat 115,UInt8.ofNat 115]
abbrev s_break:List UInt8:= [UInt8.ofNat 98,UInt8.ofNat 114,UInt8.ofNat 101,UInt8.ofNat 97,UInt8.ofNat 107]
abbrev s_continue:List UInt8:= [UInt8.ofNat 99,UInt8.ofNat 111,UInt8.ofNat 110,UInt8.ofNat 116,UInt8.ofNat 105,UInt8.ofNat 110,UInt8.ofNat 117,UInt8.ofNat 101]
abbrev s_return:List UInt8:= [UInt8.ofNat 114,UInt8.ofNat 101,UInt8.ofNat 116,UInt8.ofNat 117,UInt8.ofNat 114,UInt8.ofNat 110]
abbrev s_raise:List UInt8:= [UInt8.ofNat 114,UInt8.ofNat 97,UInt8.ofNat 105,UInt8.ofNat 115,UInt8.ofNat 101]
abbrev s_global:List UInt8:= [UInt8.ofNat 103,UInt8.ofNat 108,UInt8.ofNat 111,UInt8.ofNat 98,UInt8.ofNat 97,UInt8.ofNat 108]
abbrev s_nonlocal:List UInt8:= [UInt8.ofNat 110,UInt8.ofNat 111,UInt8.ofNat 110,UInt8.ofNat 108,UInt8.ofNat 111,UInt8.ofNat 99,UInt8.ofNat 97,UInt8.ofNat 108]
abbrev s_assert:List UInt8:= [UInt8.ofNat 97,UInt8.ofNat 115,UInt8.ofNat 115,UInt8.ofNat 101,UInt8.ofNat 114,UInt8.ofNat 116]
abbrev s_yield:List UInt8:= [UInt8.ofNat 121,UInt8.ofNat 105,UInt8.ofNat 101,UInt8.ofNat 108,UInt8.ofNat 100]
abbrev s_del:List UInt8:= [UInt8.ofNat 100,UInt8.ofNat 101,UInt8.ofNat 108]
abbrev s_elif:List UInt8:= [UInt8.ofNat 101,UInt8.ofNat 108,UInt8.ofNat 105,UInt8.ofNat 102]
abbrev s_except:List UInt8:= [UInt8.ofNat 101,UInt8.ofNat 120,UInt8.ofNat 99,UInt8.ofNat 101,UInt8.ofNat 112,UInt8.ofNat 116]
abbrev s_as:List UInt8:= [UInt8.ofNat 97,UInt8.ofNat 115]
abbrev s_finally:List UInt8:= [UInt8.ofNat 102,UInt8.ofNat 105,UInt8.ofNat 110,UInt8.ofNat 97,UInt8.ofNat 108,UInt8.ofNat 108,UInt8.ofNat 121]
abbrev s_while:List UInt8:= [UInt8.ofNat 119,UInt8.ofNat 104,UInt8.ofNat 105,UInt8.ofNat 108,UInt8.ofNat 101]
abbrev s_def:List UInt8:= [UInt8.ofNat 100,UInt8.ofNat 101,UInt8.ofNat 102]
abbrev s_class:List UInt8:= [UInt8.ofNat 99,UInt8.ofNat 108,UInt8.ofNat 97,UInt8.ofNat 115,UInt8.ofNat 115]
abbrev s_try:List UInt8:= [UInt8.ofNat 116,UInt8.ofNat 114,UInt8.ofNat 121]
abbrev s_with:List UInt8:= [UInt8.ofNat 119,UInt8.ofNat 105,UInt8.ofNat 116,UInt8.ofNat 104]
def begT (ts:List PT)(i:Nat):Bool:=decide (4≤(nowT ts i).kind∧(nowT ts i).kind≤7)||isT ts i s_lambda||isT ts i s_not||isT ts i s_None||isT ts i s_True||isT ts i s_False||isT ts i s_plus||isT ts i s_minus||isT ts i s_lpar||isT ts i s_lbrk||isT ts i s_lbrc
abbrev PR:=Option (Except Nat (List Nd×Nat))
def pb (r:PR)(k:List Nd→Nat→PR):PR:=match r with
 | none=>none
 | some (.error e)=>some (.error e)
 | some (.ok (l,i))=>k l i
def pk1 (n:Nd)(i:Nat):PR:=some (.ok ([n],i))
def pb1 (r:PR)(k:Nd→Nat→PR):PR:=pb r fun l i=>match l with
 | [n]=>k n i
 | _=>none
def wantB(ts:List PT)(s:List UInt8)(i:Nat)(k:Nat→PR):PR:=if isT ts i s=true then k (i+1) else some (.error i)
def wantK(ts:List PT)(kd:Int)(i:Nat)(k:List UInt8→Nat→PR):PR:=if (nowT ts i).kind=kd then k (nowT ts i).text (i+1) else some (.error i)
def singleN(n:Nd):Bool:=decide (n.kind=36∨n.kind=45∨n.kind=46)
mutual
def placeN:Nd→Bool
 | .mk k _ _ _ ks=>if k=52∨k=51 then placesN ks && !ks.isEmpty else decide (k=36∨k=45∨k=46)
def placesN:List Nd→Bool
 | []=>true
 | n::ks=>placeN n&&placesN ks
end
def opT (ts:List PT)(i:Nat):Except Nat (Nat×Nat):=
 if isT ts i s_eqeq=true then .ok (1,i+1) else if isT ts i s_bne=true then .ok (2,i+1) else if isT ts i s_lt=true then .ok (3,i+1) else if isT ts i s_le=true then .ok (4,i+1)
 else if isT ts i s_gt=true then .ok (5,i+1) else if isT ts i s_ge=true then .ok (6,i+1) else if isT ts i s_in=true then .ok (7,i+1)
 else if isT ts i s_not=true then (if isT ts (i+1) s_in=true then .ok (8,i+2) else .error (i+1))
 else if isT ts i s_is=true then (if isT ts (i+1) s_not=true then .ok (10,i+2) else .ok (9,i+1)) else .ok (0,i)
def augT (ts:List PT)(i:Nat):Nat:=if isT ts i s_plusA=true then 1 else if isT ts i s_minusA=true then 2 else if isT ts i s_starA=true then 3 else if isT ts i s_slashA=true then 4 else if isT ts i s_dslashA=true then 5 else if isT ts i s_pctA=true then 6 else if isT ts i s_dstarA=true then 7 else 0
def leafK(k:Int):Nat:=if k=5 then 30 else if k=6 then 31 else if k=7 then 32 else 36
def hdLine(l:Int):List Nd→Int
 | n::_=>n.line
 | []=>l
inductive NT where
 | expr | or | and | not | compare | arith | term | factor | primary | atom | exprs | one | places | simple | plain | value | block | stmt
 | params (close:List UInt8) (line:Int) (acc:List Nd)
 | row (close:List UInt8) (acc:List Nd)
 | exprsL (line:Int) (acc:List Nd)
 | orL (n:Nd) | andL (n:Nd) | cmpL (n:Nd) (acc:List Nd) | arithL (n:Nd) | termL (n:Nd) | primL (n:Nd) | index (n:Nd)
 | clauses (acc:List Nd)
 | list (line:Int) | braces (line:Int) | dictL (line:Int) (acc:List Nd)
 | placesL (line:Int) (acc:List Nd)
 | names (kind:Nat) (line:Int) (acc:List Nd)
 | maybe (kind:Nat) (line:Int) (all:Bool)
 | asgL (line:Int) (acc:List Nd)
 | blockL (acc:List Nd)
 | ifs (line:Int) | tries (line:Int) | triesL (acc:List Nd) | triesF (line:Int) (acc:List Nd)
 | top (acc:List Nd)
def gr (ts:List PT):Nat→NT→Nat→PR
 | 0,_,_=>none
 | f+1, .expr,i=>if isT ts i s_lambda=true then
     pb1 (gr ts f (.params s_colon (nowT ts i).line []) (i+1)) fun p i1=>wantB ts s_colon i1 fun i2=>pb1 (gr ts f .expr i2) fun e i3=>pk1 (nd 50 (nowT ts i).line [p,e]) i3
    else pb1 (gr ts f .or i) fun a i1=>if isT ts i1 s_if=true then
     pb1 (gr ts f .or (i1+1)) fun c i2=>wantB ts s_else i2 fun i3=>pb1 (gr ts f .expr i3) fun e i4=>pk1 (nd 49 a.line [c,a,e]) i4
    else pk1 a i1
 | f+1, .or,i=>pb1 (gr ts f .and i) fun n i1=>gr ts f (.orL n) i1
 | f+1, .orL n,i=>if isT ts i s_or=true then pb1 (gr ts f .and (i+1)) fun m i1=>gr ts f (.orL (nd 40 n.line [n,m])) i1 else pk1 n i
 | f+1, .and,i=>pb1 (gr ts f .not i) fun n i1=>gr ts f (.andL n) i1
 | f+1, .andL n,i=>if isT ts i s_and=true then pb1 (gr ts f .not (i+1)) fun m i1=>gr ts f (.andL (nd 39 n.line [n,m])) i1 else pk1 n i
 | f+1, .not,i=>if isT ts i s_not=true then pb1 (gr ts f .not (i+1)) fun n i1=>pk1 (nd 41 (nowT ts i).line [n]) i1 else gr ts f .compare i
 | f+1, .compare,i=>pb1 (gr ts f .arith i) fun n i1=>gr ts f (.cmpL n []) i1
 | f+1, .cmpL n acc,i=>match opT ts i with
   | .error e=>some (.error e)
   | .ok (0,_)=>pk1 (if acc.isEmpty then n else nd 42 n.line (n::acc)) i
   | .ok (op+1,i1)=>pb1 (gr ts f .arith i1) fun m i2=>gr ts f (.cmpL n (acc++ [.mk 43 (nowT ts i).line [] (op+1) [m]])) i2
 | f+1, .arith,i=>pb1 (gr ts f .term i) fun n i1=>gr ts f (.arithL n) i1
 | f+1, .arithL n,i=>if isT ts i s_plus=true then pb1 (gr ts f .term (i+1)) fun m i1=>gr ts f (.arithL (.mk 37 n.line [] 1 [n,m])) i1
    else if isT ts i s_minus=true then pb1 (gr ts f .term (i+1)) fun m i1=>gr ts f (.arithL (.mk 37 n.line [] 2 [n,m])) i1 else pk1 n i
 | f+1, .term,i=>pb1 (gr ts f .factor i) fun n i1=>gr ts f (.termL n) i1
 | f+1, .termL n,i=>if isT ts i s_star=true then pb1 (gr ts f .factor (i+1)) fun m i1=>gr ts f (.termL (.mk 37 n.line [] 3 [n,m])) i1
    else if isT ts i s_slash=true then pb1 (gr ts f .factor (i+1)) fun m i1=>gr ts f (.termL (.mk 37 n.line [] 4 [n,m])) i1
    else if isT ts i s_dslash=true then pb1 (gr ts f .factor (i+1)) fun m i1=>gr ts f (.termL (.mk 37 n.line [] 5 [n,m])) i1
    else if isT ts i s_pct=true then pb1 (gr ts f .factor (i+1)) fun m i1=>gr ts f (.termL (.mk 37 n.line [] 6 [n,m])) i1 else pk1 n i
 | f+1, .factor,i=>if isT ts i s_plus=true then pb1 (gr ts f .factor (i+1)) fun n i1=>pk1 (.mk 38 (nowT ts i).line [] 2 [n]) i1
    else if isT ts i s_minus=true then pb1 (gr ts f .factor (i+1)) fun n i1=>pk1 (.mk 38 (nowT ts i).line [] 1 [n]) i1
    else pb1 (gr ts f .primary i) fun n i1=>if isT ts i1 s_dstar=true then pb1 (gr ts f .factor (i1+1)) fun m i2=>pk1 (.mk 37 n.line [] 7 [n,m]) i2 else pk1 n i1
 | f+1, .primary,i=>pb1 (gr ts f .atom i) fun n i1=>gr ts f (.primL n) i1
 | f+1, .primL n,i=>if isT ts i s_dot=true then wantK ts 4 (i+1) fun s i1=>gr ts f (.primL (.mk 45 n.line s 0 [n])) i1
    else if isT ts i s_lpar=true then pb (gr ts f (.row s_rpar []) (i+1)) fun l i1=>wantB ts s_rpar i1 fun i2=>gr ts f (.primL (nd 44 n.line (n::l))) i2
    else if isT ts i s_lbrk=true then pb1 (gr ts f (.index n) (i+1)) fun m i1=>wantB ts s_rbrk i1 fun i2=>gr ts f (.primL m) i2 else pk1 n i
 | f+1, .index n,i=>if isT ts i s_colon=true then wantB ts s_colon i fun i2=>if isT ts i2 s_rbrk=true then pk1 (nd 47 n.line [n,nd 48 n.line [],nd 48 n.line []]) i2
      else pb1 (gr ts f .expr i2) fun hi i3=>pk1 (nd 47 n.line [n,nd 48 n.line [],hi]) i3
    else pb1 (gr ts f .expr i) fun lo i1=>if isT ts i1 s_comma=true then pb1 (gr ts f (.exprsL lo.line [lo]) i1) fun m i2=>pk1 (nd 46 n.line [n,m]) i2
     else if isT ts i1 s_colon=true then (if isT ts (i1+1) s_rbrk=true then pk1 (nd 47 n.line [n,lo,nd 48 n.line []]) (i1+1)
      else pb1 (gr ts f .expr (i1+1)) fun hi i3=>pk1 (nd 47 n.line [n,lo,hi]) i3) else pk1 (nd 46 n.line [n,lo]) i1
 | f+1, .atom,i=>if 4≤(nowT ts i).kind∧(nowT ts i).kind≤7 then pk1 (.mk (leafK (nowT ts i).kind) (nowT ts i).line (nowT ts i).text 0 []) (i+1)
    else if isT ts i s_None=true then pk1 (nd 33 (nowT ts i).line []) (i+1) else if isT ts i s_True=true then pk1 (nd 34 (nowT ts i).line []) (i+1)
    else if isT ts i s_False=true then pk1 (nd 35 (nowT ts i).line []) (i+1)
    else if isT ts i s_lpar=true then (if isT ts (i+1) s_rpar=true then pk1 (nd 52 (nowT ts i).line []) (i+2) else pb1 (gr ts f .exprs (i+1)) fun n i1=>wantB ts s_rpar i1 fun i2=>pk1 n i2)
    else if isT ts i s_lbrk=true then pb1 (gr ts f (.list (nowT ts i).line) (i+1)) fun n i1=>wantB ts s_rbrk i1 fun i2=>pk1 n i2
    else if isT ts i s_lbrc=true then pb1 (gr ts f (.braces (nowT ts i).line) (i+1)) fun n i1=>wantB ts s_rbrc i1 fun i2=>pk1 n i2
    else some (.error i)
 | f+1, .exprs,i=>pb1 (gr ts f .expr i) fun n i1=>if isT ts i1 s_comma=true then gr ts f (.exprsL n.line [n]) i1 else pk1 n i1
 | f+1, .exprsL l acc,i=>if isT ts i s_comma=true then (if begT ts (i+1)=true then pb1 (gr ts f .expr (i+1)) fun e i1=>gr ts f (.exprsL l (acc++ [e])) i1 else pk1 (nd 52 l acc) (i+1)) else pk1 (nd 52 l acc) i
 | f+1, .row cl acc,i=>if isT ts i cl=true then some (.ok (acc,i)) else pb1 (gr ts f .expr i) fun e i1=>if isT ts i1 s_comma=true then gr ts f (.row cl (acc++ [e])) (i1+1) else some (.ok (acc++ [e],i1))
 | f+1, .params cl l acc,i=>if isT ts i cl=true then pk1 (nd 23 l acc) i else wantK ts 4 i fun s i1=>if isT ts i1 s_comma=true then gr ts f (.params cl l (acc++ [.mk 36 (nowT ts i).line s 0 []])) (i1+1) else pk1 (nd 23 l (acc++ [.mk 36 (nowT ts i).line s 0 []])) i1
 | f+1, .clauses acc,i=>if isT ts i s_for=true then pb1 (gr ts f .places (i+1)) fun p i1=>wantB ts s_in i1 fun i2=>pb1 (gr ts f .or i2) fun e i3=>gr ts f (.clauses (acc++ [nd 58 (nowT ts i).line [p,e]])) i3
    else if isT ts i s_if=true then pb1 (gr ts f .or (i+1)) fun e i1=>gr ts f (.clauses (acc++ [nd 59 (nowT ts i).line [e]])) i1 else some (.ok (acc,i))
 | f+1, .list l,i=>if isT ts i s_rbrk=true then pk1 (nd 51 l []) i else pb1 (gr ts f .expr i) fun e i1=>if isT ts i1 s_for=true then pb (gr ts f (.clauses []) i1) fun cs i2=>pk1 (nd 55 l (e::cs)) i2
    else if isT ts i1 s_comma=true then pb (gr ts f (.row s_rbrk []) (i1+1)) fun r i2=>pk1 (nd 51 l (e::r)) i2 else pk1 (nd 51 l [e]) i1
 | f+1, .braces l,i=>if isT ts i s_rbrc=true then pk1 (nd 54 l []) i else pb1 (gr ts f .expr i) fun e i1=>if isT ts i1 s_colon=true then
     pb1 (gr ts f .expr (i1+1)) fun v i2=>if isT ts i2 s_for=true then pb (gr ts f (.clauses []) i2) fun cs i3=>pk1 (nd 57 l (e::v::cs)) i3 else gr ts f (.dictL l [e,v]) i2
    else if isT ts i1 s_for=true then pb (gr ts f (.clauses []) i1) fun cs i2=>pk1 (nd 56 l (e::cs)) i2
    else if isT ts i1 s_comma=true then pb (gr ts f (.row s_rbrc []) (i1+1)) fun r i2=>pk1 (nd 53 l (e::r)) i2 else pk1 (nd 53 l [e]) i1
 | f+1, .dictL l acc,i=>if isT ts i s_comma=true then (if isT ts (i+1) s_rbrc=true then pk1 (nd 54 l acc) (i+1) else pb1 (gr ts f .expr (i+1)) fun k i1=>wantB ts s_colon i1 fun i2=>pb1 (gr ts f .expr i2) fun v i3=>gr ts f (.dictL l (acc++ [k,v])) i3) else pk1 (nd 54 l acc) i
 | f+1, .one,i=>pb1 (gr ts f .primary i) fun n i1=>if placeN n=true then pk1 n i1 else some (.error i1)
 | f+1, .places,i=>pb1 (gr ts f .one i) fun n i1=>if isT ts i1 s_comma=true then gr ts f (.placesL n.line [n]) i1 else pk1 n i1
 | f+1, .placesL l acc,i=>if isT ts i s_comma=true then (if begT ts (i+1)=true∧isT ts (i+1) s_plus=false∧isT ts (i+1) s_minus=false∧isT ts (i+1) s_not=false∧isT ts (i+1) s_lambda=false then pb1 (gr ts f .one (i+1)) fun e i1=>gr ts f (.placesL l (acc++ [e])) i1 else pk1 (nd 52 l acc) (i+1)) else pk1 (nd 52 l acc) i
 | f+1, .names k l acc,i=>wantK ts 4 i fun s i1=>if isT ts i1 s_comma=true then gr ts f (.names k l (acc++ [.mk 36 (nowT ts i).line s 0 []])) (i1+1) else pk1 (nd k l (acc++ [.mk 36 (nowT ts i).line s 0 []])) i1
 | f+1, .maybe k l all,i=>if begT ts i=true then pb1 (gr ts f (if all=true then .exprs else .expr) i) fun e i1=>pk1 (nd k l [e]) i1 else pk1 (nd k l []) i
 | f+1, .value,i=>if isT ts i s_yield=true then gr ts f (.maybe 60 (nowT ts i).line true) (i+1) else gr ts f .exprs i
 | f+1, .plain,i=>pb1 (gr ts f .exprs i) fun n i1=>if isT ts i1 s_asg=true then gr ts f (.asgL n.line [n]) i1
    else if augT ts i1=0 then pk1 (nd 2 n.line [n]) i1 else if singleN n=true then pb1 (gr ts f .exprs (i1+1)) fun m i2=>pk1 (.mk 4 n.line [] (augT ts i1) [n,m]) i2 else some (.error i1)
 | f+1, .asgL l acc,i=>if isT ts i s_asg=true then (match acc.getLast? with
     | some n=>if placeN n=true then pb1 (gr ts f .value (i+1)) fun v i1=>gr ts f (.asgL l (acc++ [v])) i1 else some (.error i)
     | none=>none) else pk1 (nd 3 l acc) i
 | f+1, .simple,i=>if isT ts i s_pass=true then pk1 (nd 11 (nowT ts i).line []) (i+1) else if isT ts i s_break=true then pk1 (nd 12 (nowT ts i).line []) (i+1)
    else if isT ts i s_continue=true then pk1 (nd 13 (nowT ts i).line []) (i+1) else if isT ts i s_return=true then gr ts f (.maybe 10 (nowT ts i).line true) (i+1)
    else if isT ts i s_raise=true then gr ts f (.maybe 14 (nowT ts i).line false) (i+1) else if isT ts i s_global=true then gr ts f (.names 17 (nowT ts i).line []) (i+1)
    else if isT ts i s_nonlocal=true then gr ts f (.names 18 (nowT ts i).line []) (i+1) else if isT ts i s_assert=true then pb1 (gr ts f .expr (i+1)) fun e i1=>pk1 (nd 20 (nowT ts i).line [e]) i1
    else if isT ts i s_yield=true then pb1 (gr ts f (.maybe 60 (nowT ts i).line true) (i+1)) fun e i1=>pk1 (nd 2 (nowT ts i).line [e]) i1
    else if isT ts i s_del=true then pb1 (gr ts f .primary (i+1)) fun n i1=>if singleN n=true then pk1 (nd 19 (nowT ts i).line [n]) i1 else some (.error i1)
    else gr ts f .plain i
 | f+1, .block,i=>if (nowT ts i).kind=1 then wantK ts 2 (i+1) fun _ i1=>gr ts f (.blockL []) i1 else pb1 (gr ts f .simple i) fun n i1=>wantK ts 1 i1 fun _ i2=>pk1 (nd 1 n.line [n]) i2
 | f+1, .blockL acc,i=>pb1 (gr ts f .stmt i) fun s i1=>if (nowT ts i1).kind=3 then pk1 (nd 1 (hdLine 0 (acc++ [s])) (acc++ [s])) (i1+1) else gr ts f (.blockL (acc++ [s])) i1
 | f+1, .ifs l,i=>pb1 (gr ts f .expr i) fun c i1=>wantB ts s_colon i1 fun i2=>pb1 (gr ts f .block i2) fun b i3=>if isT ts i3 s_elif=true then
     pb1 (gr ts f (.ifs (nowT ts i3).line) (i3+1)) fun x i4=>pk1 (nd 5 l [c,b,nd 1 (nowT ts i3).line [x]]) i4
    else if isT ts i3 s_else=true then wantB ts s_colon (i3+1) fun i4=>pb1 (gr ts f .block i4) fun e i5=>pk1 (nd 5 l [c,b,e]) i5 else pk1 (nd 5 l [c,b]) i3
 | f+1, .tries l,i=>wantB ts s_colon i fun i1=>pb1 (gr ts f .block i1) fun b i2=>pb (gr ts f (.triesL [b]) i2) fun acc i3=>gr ts f (.triesF l acc) i3
 | f+1, .triesL acc,i=>if isT ts i s_except=true then (if isT ts (i+1) s_colon=true then pb1 (gr ts f .block (i+2)) fun b i1=>some (.ok (acc++ [nd 21 (nowT ts i).line [b]],i1))
     else pb1 (gr ts f .expr (i+1)) fun e i1=>if isT ts i1 s_as=true then wantK ts 4 (i1+1) fun s i2=>wantB ts s_colon i2 fun i3=>pb1 (gr ts f .block i3) fun b i4=>gr ts f (.triesL (acc++ [.mk 21 (nowT ts i).line s 0 [e,b]])) i4
      else wantB ts s_colon i1 fun i3=>pb1 (gr ts f .block i3) fun b i4=>gr ts f (.triesL (acc++ [nd 21 (nowT ts i).line [e,b]])) i4) else some (.ok (acc,i))
 | f+1, .triesF l acc,i=>if isT ts i s_finally=true then wantB ts s_colon (i+1) fun i1=>pb1 (gr ts f .block i1) fun b i2=>pk1 (nd 15 l (acc++ [nd 22 (nowT ts i).line [b]])) i2
    else if acc.length=1 then some (.error i) else pk1 (nd 15 l acc) i
 | f+1, .stmt,i=>if isT ts i s_if=true then gr ts f (.ifs (nowT ts i).line) (i+1)
    else if isT ts i s_while=true then pb1 (gr ts f .expr (i+1)) fun c i1=>wantB ts s_colon i1 fun i2=>pb1 (gr ts f .block i2) fun b i3=>pk1 (nd 6 (nowT ts i).line [c,b]) i3
    else if isT ts i s_for=true then pb1 (gr ts f .places (i+1)) fun p i1=>wantB ts s_in i1 fun i2=>pb1 (gr ts f .exprs i2) fun e i3=>wantB ts s_colon i3 fun i4=>pb1 (gr ts f .block i4) fun b i5=>pk1 (nd 7 (nowT ts i).line [p,e,b]) i5
    else if isT ts i s_def=true then wantK ts 4 (i+1) fun s i1=>wantB ts s_lpar i1 fun i2=>pb1 (gr ts f (.params s_rpar (nowT ts i).line []) i2) fun p i3=>wantB ts s_rpar i3 fun i4=>wantB ts s_colon i4 fun i5=>pb1 (gr ts f .block i5) fun b i6=>pk1 (.mk 8 (nowT ts i).line s 0 [p,b]) i6
    else if isT ts i s_class=true then wantK ts 4 (i+1) fun s i1=>if isT ts i1 s_lpar=true then pb (gr ts f (.row s_rpar []) (i1+1)) fun bs i2=>wantB ts s_rpar i2 fun i3=>wantB ts s_colon i3 fun i4=>pb1 (gr ts f .block i4) fun b i5=>pk1 (.mk 9 (nowT ts i).line s 0 [nd 24 (nowT ts i).line bs,b]) i5
     else wantB ts s_colon i1 fun i4=>pb1 (gr ts f .block i4) fun b i5=>pk1 (.mk 9 (nowT ts i).line s 0 [nd 24 (nowT ts i).line [],b]) i5
    else if isT ts i s_try=true then gr ts f (.tries (nowT ts i).line) (i+1)
    else if isT ts i s_with=true then pb1 (gr ts f .expr (i+1)) fun e i1=>if isT ts i1 s_as=true then wantK ts 4 (i1+1) fun s i2=>wantB ts s_colon i2 fun i3=>pb1 (gr ts f .block i3) fun b i4=>pk1 (.mk 16 (nowT ts i).line s 0 [e,b]) i4
     else wantB ts s_colon i1 fun i3=>pb1 (gr ts f .block i3) fun b i4=>pk1 (nd 16 (nowT ts i).line [e,b]) i4
    else pb1 (gr ts f .simple i) fun n i1=>wantK ts 1 i1 fun _ i2=>pk1 n i2
 | f+1, .top acc,i=>if (nowT ts i).kind=0 then some (.ok (acc,i)) else pb1 (gr ts f .stmt i) fun s i1=>gr ts f (.top (acc++ [s])) i1
end Can
end Go.Proofs.YticlaccbodpkeaaGreatDoor
end
section
namespace Go.Proofs.YticlaccbodpkeaaGreatDoor
namespace Can
set_option linter.unusedSimpArgs false
set_option linter.unusedVariables false
abbrev Bs:=List UInt8
mutual
def plc:Nd→List Bs
 | .mk k _ x _ ks=>if k=36 then [x] else if k=52∨k=51 then plcL ks else []
def plcL:List Nd→List Bs
 | []=> []
 | n::ks=>plc n++plcL ks
end
def kid0:List Nd→Nd
 | n::_=>n
 | []=> .mk 0 0 [] 0 []
def ownL:List Nd→List Bs
 | []=> []
 | n::ks=>(if n.kind=58 then plc (kid0 n.kids) else [])++ownL ks
def wo (ρ:Bs→Nat)(ps:List Nd):Bs→Nat:=fun y=>if y∈ps.map Nd.text then 0 else ρ y
def wi (ρ:Bs→Nat)(own:List Bs)(c:Nat):Bs→Nat:=fun y=>if y∈own then c else ρ y
variable (it:Nat→Bs)
mutual
def renP (ρ:Bs→Nat)(c:Nat):Nd→Nd×Nat
 | .mk k l x o ks=>if k=55∨k=56∨k=57 then
    let r:=renC (wi ρ (ownL ks) (c+1)) ρ true (c+1) ks
    (.mk k l x o r.1,r.2)
   else
    let r:=renL (if k=8∨k=50 then wo ρ (kid0 ks).kids else ρ) c ks
    (.mk k l (if k=36∧0<ρ x then x++ [46]++it (ρ x) else x) o r.1,r.2)
def renL (ρ:Bs→Nat)(c:Nat):List Nd→List Nd×Nat
 | []=>([],c)
 | n::ks=>let a:=renP ρ c n;let r:=renL ρ a.2 ks;(a.1::r.1,r.2)
def renC (ρ ρ0:Bs→Nat)(first:Bool)(c:Nat):List Nd→List Nd×Nat
 | []=>([],c)
 | .mk k l x o [p,e]::ns=>if k=58∧first=true then
    let a:=renP ρ c p
    let b:=renP ρ0 a.2 e
    let r:=renC ρ ρ0 false b.2 ns
    (.mk k l x o [a.1,b.1]::r.1,r.2)
   else
    let a:=renP ρ c (.mk k l x o [p,e])
    let r:=renC ρ ρ0 first a.2 ns
    (a.1::r.1,r.2)
 | n::ns=>let a:=renP ρ c n;let r:=renC ρ ρ0 first a.2 ns;(a.1::r.1,r.2)
end
mutual
def rnd (deep:Nat):Nd→Nd→Bool
 | .mk k l x o ks, .mk k' l' x' o' ks'=>decide (k=k')&&decide (l=l')&&decide (o=o')&&decide (ks.length=ks'.length) &&
   (decide (x=x')||(decide (k=36)&&decide (0<(if k=55∨k=56∨k=57 then deep+1 else deep))&&decide (x.length+2≤x'.length)&&decide (x'.take x.length=x)&&decide (x'[x.length]? = some 46)))&&rndL (if k=55∨k=56∨k=57 then deep+1 else deep) ks ks'
def rndL (deep:Nat):List Nd→List Nd→Bool
 | n::ks,n'::ks'=>rnd deep n n'&&rndL deep ks ks'
 | _,_=>true
end
def R1 (N:Nat):Prop:=∀(n:Nd) (ρ:Bs→Nat) (deep c:Nat),SizeOf.sizeOf n<N→((∃y,0<ρ y)→0<deep)→rnd deep n (renP it ρ c n).1=true
def R2' (N:Nat):Prop:=∀(ks:List Nd) (ρ:Bs→Nat) (deep c:Nat),SizeOf.sizeOf ks<N→((∃y,0<ρ y)→0<deep)→rndL deep ks (renL it ρ c ks).1=true
def R3 (N:Nat):Prop:=∀(ks:List Nd) (ρ ρ0:Bs→Nat) (f:Bool) (deep c:Nat),SizeOf.sizeOf ks<N→0<deep→rndL deep ks (renC it ρ ρ0 f c ks).1=true
end Can
end Go.Proofs.YticlaccbodpkeaaGreatDoor
end
