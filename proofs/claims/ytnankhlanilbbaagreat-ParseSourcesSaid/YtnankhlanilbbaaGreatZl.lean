/- Parse: the grammar as a function of tokens; with so many steps. No program in sight. (Printed by tools/genps.py.). Parse: the grammar answers, whatever the tokens; where it ends, how many nodes. No program in sight. Parse: with more steps the same answer. No program in sight. Parse, the program: the reader in memory; its looks at a token. Parse, the program: what is known of its reader's looks, for runs over trees. Parse, the program: a token that can't stand there: fail panics. Parse, the program: the closure that Parse defers. -/
import Derived.WalkKit
import Derived.Test.YtnankhlanilbbaaGreatZk
import Derived.Test.YtnankhlanilbbaaGreatZd
import Derived.Test.YtnankhlanilbbaaGreatZi
section
namespace Go.Proofs.YtnankhlanilbbaaGreat
namespace Can
set_option linter.unusedSimpArgs false
set_option linter.unusedVariables false
structure PT where
 kind:Int
 line:Int
 text:List UInt8
inductive Nd where
 | mk (kind:Nat) (line:Int) (text:List UInt8) (op:Nat) (kids:List Nd)
def Nd.kind:Nd→Nat
 | .mk k _ _ _ _=>k
def Nd.line:Nd→Int
 | .mk _ l _ _ _=>l
def Nd.text:Nd→List UInt8
 | .mk _ _ x _ _=>x
def Nd.op:Nd→Nat
 | .mk _ _ _ o _=>o
def Nd.kids:Nd→List Nd
 | .mk _ _ _ _ ks=>ks
abbrev nd(k:Nat)(l:Int)(kids:List Nd):Nd:= .mk k l [] 0 kids
def nowT (ts:List PT)(i:Nat):PT:=match ts[i]? with
 | some t=>t
 | none=>match ts.getLast? with
   | some t=>⟨0,t.line,[]⟩
   | none=>⟨0,0,[]⟩
def isWd:List UInt8→Bool
 | c::_=>decide ((65≤c.toNat∧c.toNat≤90)∨(97≤c.toNat∧c.toNat≤122))
 | []=>false
def isT (ts:List PT)(i:Nat)(s:List UInt8):Bool:=decide (((nowT ts i).kind=8∨(nowT ts i).kind=9)∧(nowT ts i).text=s∧isWd s=decide ((nowT ts i).kind=8))
abbrev s_lambda:List UInt8:= [UInt8.ofNat 108,UInt8.ofNat 97,UInt8.ofNat 109,UInt8.ofNat 98,UInt8.ofNat 100,UInt8.ofNat 97]
abbrev s_colon:List UInt8:= [UInt8.ofNat 58]
abbrev s_if:List UInt8:= [UInt8.ofNat 105,UInt8.ofNat 102]
abbrev s_else:List UInt8:= [UInt8.ofNat 101,UInt8.ofNat 108,UInt8.ofNat 115,UInt8.ofNat 101]
abbrev s_or:List UInt8:= [UInt8.ofNat 111,UInt8.ofNat 114]
abbrev s_and:List UInt8:= [UInt8.ofNat 97,UInt8.ofNat 110,UInt8.ofNat 100]
abbrev s_not:List UInt8:= [UInt8.ofNat 110,UInt8.ofNat 111,UInt8.ofNat 116]
abbrev s_eqeq:List UInt8:= [UInt8.ofNat 61,UInt8.ofNat 61]
abbrev s_bne:List UInt8:= [UInt8.ofNat 33,UInt8.ofNat 61]
abbrev s_lt:List UInt8:= [UInt8.ofNat 60]
abbrev s_le:List UInt8:= [UInt8.ofNat 60,UInt8.ofNat 61]
abbrev s_gt:List UInt8:= [UInt8.ofNat 62]
abbrev s_ge:List UInt8:= [UInt8.ofNat 62,UInt8.ofNat 61]
abbrev s_in:List UInt8:= [UInt8.ofNat 105,UInt8.ofNat 110]
abbrev s_is:List UInt8:= [UInt8.ofNat 105,UInt8.ofNat 115]
abbrev s_plus:List UInt8:= [UInt8.ofNat 43]
abbrev s_minus:List UInt8:= [UInt8.ofNat 45]
abbrev s_star:List UInt8:= [UInt8.ofNat 42]
abbrev s_slash:List UInt8:= [UInt8.ofNat 47]
abbrev s_dslash:List UInt8:= [UInt8.ofNat 47,UInt8.ofNat 47]
abbrev s_pct:List UInt8:= [UInt8.ofNat 37]
abbrev s_dstar:List UInt8:= [UInt8.ofNat 42,UInt8.ofNat 42]
abbrev s_dot:List UInt8:= [UInt8.ofNat 46]
abbrev s_lpar:List UInt8:= [UInt8.ofNat 40]
abbrev s_rpar:List UInt8:= [UInt8.ofNat 41]
abbrev s_lbrk:List UInt8:= [UInt8.ofNat 91]
abbrev s_rbrk:List UInt8:= [UInt8.ofNat 93]
abbrev s_lbrc:List UInt8:= [UInt8.ofNat 123]
abbrev s_rbrc:List UInt8:= [UInt8.ofNat 125]
abbrev s_comma:List UInt8:= [UInt8.ofNat 44]
abbrev s_None:List UInt8:= [UInt8.ofNat 78,UInt8.ofNat 111,UInt8.ofNat 110,UInt8.ofNat 101]
abbrev s_True:List UInt8:= [UInt8.ofNat 84,UInt8.ofNat 114,UInt8.ofNat 117,UInt8.ofNat 101]
abbrev s_False:List UInt8:= [UInt8.ofNat 70,UInt8.ofNat 97,UInt8.ofNat 108,UInt8.ofNat 115,UInt8.ofNat 101]
abbrev s_for:List UInt8:= [UInt8.ofNat 102,UInt8.ofNat 111,UInt8.ofNat 114]
abbrev s_asg:List UInt8:= [UInt8.ofNat 61]
abbrev s_plusA:List UInt8:= [UInt8.ofNat 43,UInt8.ofNat 61]
abbrev s_minusA:List UInt8:= [UInt8.ofNat 45,UInt8.ofNat 61]
abbrev s_starA:List UInt8:= [UInt8.ofNat 42,UInt8.ofNat 61]
abbrev s_slashA:List UInt8:= [UInt8.ofNat 47,UInt8.ofNat 61]
abbrev s_dslashA:List UInt8:= [UInt8.ofNat 47,UInt8.ofNat 47,UInt8.ofNat 61]
abbrev s_pctA:List UInt8:= [UInt8.ofNat 37,UInt8.ofNat 61]
abbrev s_dstarA:List UInt8:= [UInt8.ofNat 42,UInt8.ofNat 42,UInt8.ofNat 61]
abbrev s_pass:List UInt8:= [UInt8.ofNat 112,UInt8.ofNat 97,UInt8.ofNat 115,UInt8.ofNat 115]
abbrev s_break:List UInt8:= [UInt8.ofNat 98,UInt8.ofNat 114,UInt8.ofNat 101,UInt8.ofNat 97,UInt8.ofNat 107]
abbrev s_continue:List UInt8:= [UInt8.ofNat 99,UInt8.ofNat 111,UInt8.ofNat 110,UInt8.ofNat 116,UInt8.ofNat 105,UInt8.ofNat 110,UInt8.ofNat 117,UInt8.ofNat 101]
abbrev s_return:List UInt8:= [UInt8.ofNat 114,UInt8.ofNat 101,UInt8.ofNat 116,UInt8.ofNat 117,UInt8.ofNat 114,UInt8.ofNat 110]
abbrev s_raise:List UInt8:= [UInt8.ofNat 114,UInt8.ofNat 97,UInt8.ofNat 105,UInt8.ofNat 115,UInt8.ofNat 101]
abbrev s_global:List UInt8:= [UInt8.ofNat 103,UInt8.ofNat 108,UInt8.ofNat 111,UInt8.ofNat 98,UInt8.ofNat 97,UInt8.ofNat 108]
abbrev s_nonlocal:List UInt8:= [UInt8.ofNat 110,UInt8.ofNat 111,UInt8.ofNat 110,UInt8.ofNat 108,UInt8.ofNat 111,UInt8.ofNat 99,UInt8.ofNat 97,UInt8.ofNat 108]
abbrev s_assert:List UInt8:= [UInt8.ofNat 97,UInt8.ofNat 115,UInt8.ofNat 115,UInt8.ofNat 101,UInt8.ofNat 114,UInt8.ofNat 116]
abbrev s_yield:List UInt8:= [UInt8.ofNat 121,UInt8.ofNat 105,UInt8.ofNat 101,UInt8.ofNat 108,UInt8.ofNat 100]
abbrev s_del:List UInt8:= [UInt8.ofNat 100,UInt8.ofNat 101,UInt8.ofNat 108]
abbrev s_elif:List UInt8:= [UInt8.ofNat 101,UInt8.ofNat 108,UInt8.ofNat 105,UInt8.ofNat 102]
abbrev s_except:List UInt8:= [UInt8.ofNat 101,UInt8.ofNat 120,UInt8.ofNat 99,UInt8.ofNat 101,UInt8.ofNat 112,UInt8.ofNat 116]
abbrev s_as:List UInt8:= [UInt8.ofNat 97,UInt8.ofNat 115]
abbrev s_finally:List UInt8:= [UInt8.ofNat 102,UInt8.ofNat 105,UInt8.ofNat 110,UInt8.ofNat 97,UInt8.ofNat 108,UInt8.ofNat 108,UInt8.ofNat 121]
abbrev s_while:List UInt8:= [UInt8.ofNat 119,UInt8.ofNat 104,UInt8.ofNat 105,UInt8.ofNat 108,UInt8.ofNat 101]
abbrev s_def:List UInt8:= [UInt8.ofNat 100,UInt8.ofNat 101,UInt8.ofNat 102]
abbrev s_class:List UInt8:= [UInt8.ofNat 99,UInt8.ofNat 108,UInt8.ofNat 97,UInt8.ofNat 115,UInt8.ofNat 115]
abbrev s_try:List UInt8:= [UInt8.ofNat 116,UInt8.ofNat 114,UInt8.ofNat 121]
abbrev s_with:List UInt8:= [UInt8.ofNat 119,UInt8.ofNat 105,UInt8.ofNat 116,UInt8.ofNat 104]
def begT (ts:List PT)(i:Nat):Bool:=decide (4≤(nowT ts i).kind∧(nowT ts i).kind≤7)||isT ts i s_lambda||isT ts i s_not||isT ts i s_None||isT ts i s_True||isT ts i s_False||isT ts i s_plus||isT ts i s_minus||isT ts i s_lpar||isT ts i s_lbrk||isT ts i s_lbrc
abbrev PR:=Option (Except Nat (List Nd×Nat))
def pb (r:PR)(k:List Nd→Nat→PR):PR:=match r with
 | none=>none
 | some (.error e)=>some (.error e)
 | some (.ok (l,i))=>k l i
def pk1 (n:Nd)(i:Nat):PR:=some (.ok ([n],i))
def pb1 (r:PR)(k:Nd→Nat→PR):PR:=pb r fun l i=>match l with
 | [n]=>k n i
 | _=>none
def wantB(ts:List PT)(s:List UInt8)(i:Nat)(k:Nat→PR):PR:=if isT ts i s=true then k (i+1) else some (.error i)
def wantK(ts:List PT)(kd:Int)(i:Nat)(k:List UInt8→Nat→PR):PR:=if (nowT ts i).kind=kd then k (nowT ts i).text (i+1) else some (.error i)
def singleN(n:Nd):Bool:=decide (n.kind=36∨n.kind=45∨n.kind=46)
mutual
def placeN:Nd→Bool
 | .mk k _ _ _ ks=>if k=52∨k=51 then placesN ks && !ks.isEmpty else decide (k=36∨k=45∨k=46)
def placesN:List Nd→Bool
 | []=>true
 | n::ks=>placeN n&&placesN ks
end
def opT (ts:List PT)(i:Nat):Except Nat (Nat×Nat):=
 if isT ts i s_eqeq=true then .ok (1,i+1) else if isT ts i s_bne=true then .ok (2,i+1) else if isT ts i s_lt=true then .ok (3,i+1) else if isT ts i s_le=true then .ok (4,i+1)
 else if isT ts i s_gt=true then .ok (5,i+1) else if isT ts i s_ge=true then .ok (6,i+1) else if isT ts i s_in=true then .ok (7,i+1)
 else if isT ts i s_not=true then (if isT ts (i+1) s_in=true then .ok (8,i+2) else .error (i+1))
 else if isT ts i s_is=true then (if isT ts (i+1) s_not=true then .ok (10,i+2) else .ok (9,i+1)) else .ok (0,i)
def augT (ts:List PT)(i:Nat):Nat:=if isT ts i s_plusA=true then 1 else if isT ts i s_minusA=true then 2 else if isT ts i s_starA=true then 3 else if isT ts i s_slashA=true then 4 else if isT ts i s_dslashA=true then 5 else if isT ts i s_pctA=true then 6 else if isT ts i s_dstarA=true then 7 else 0
def leafK(k:Int):Nat:=if k=5 then 30 else if k=6 then 31 else if k=7 then 32 else 36
def hdLine(l:Int):List Nd→Int
 | n::_=>n.line
 | []=>l
inductive NT where
 | expr | or | and | not | compare | arith | term | factor | primary | atom | exprs | one | places | simple | plain | value | block | stmt
 | params (close:List UInt8) (line:Int) (acc:List Nd)
 | row (close:List UInt8) (acc:List Nd)
 | exprsL (line:Int) (acc:List Nd)
 | orL (n:Nd) | andL (n:Nd) | cmpL (n:Nd) (acc:List Nd) | arithL (n:Nd) | termL (n:Nd) | primL (n:Nd) | index (n:Nd)
 | clauses (acc:List Nd)
 | list (line:Int) | braces (line:Int) | dictL (line:Int) (acc:List Nd)
 | placesL (line:Int) (acc:List Nd)
 | names (kind:Nat) (line:Int) (acc:List Nd)
 | maybe (kind:Nat) (line:Int) (all:Bool)
 | asgL (line:Int) (acc:List Nd)
 | blockL (acc:List Nd)
 | ifs (line:Int) | tries (line:Int) | triesL (acc:List Nd) | triesF (line:Int) (acc:List Nd)
 | top (acc:List Nd)
def gr (ts:List PT):Nat→NT→Nat→PR
 | 0,_,_=>none
 | f+1, .expr,i=>if isT ts i s_lambda=true then
     pb1 (gr ts f (.params s_colon (nowT ts i).line []) (i+1)) fun p i1=>wantB ts s_colon i1 fun i2=>pb1 (gr ts f .expr i2) fun e i3=>pk1 (nd 50 (nowT ts i).line [p,e]) i3
    else pb1 (gr ts f .or i) fun a i1=>if isT ts i1 s_if=true then
     pb1 (gr ts f .or (i1+1)) fun c i2=>wantB ts s_else i2 fun i3=>pb1 (gr ts f .expr i3) fun e i4=>pk1 (nd 49 a.line [c,a,e]) i4
    else pk1 a i1
 | f+1, .or,i=>pb1 (gr ts f .and i) fun n i1=>gr ts f (.orL n) i1
 | f+1, .orL n,i=>if isT ts i s_or=true then pb1 (gr ts f .and (i+1)) fun m i1=>gr ts f (.orL (nd 40 n.line [n,m])) i1 else pk1 n i
 | f+1, .and,i=>pb1 (gr ts f .not i) fun n i1=>gr ts f (.andL n) i1
 | f+1, .andL n,i=>if isT ts i s_and=true then pb1 (gr ts f .not (i+1)) fun m i1=>gr ts f (.andL (nd 39 n.line [n,m])) i1 else pk1 n i
 | f+1, .not,i=>if isT ts i s_not=true then pb1 (gr ts f .not (i+1)) fun n i1=>pk1 (nd 41 (nowT ts i).line [n]) i1 else gr ts f .compare i
 | f+1, .compare,i=>pb1 (gr ts f .arith i) fun n i1=>gr ts f (.cmpL n []) i1
 | f+1, .cmpL n acc,i=>match opT ts i with
   | .error e=>some (.error e)
   | .ok (0,_)=>pk1 (if acc.isEmpty then n else nd 42 n.line (n::acc)) i
   | .ok (op+1,i1)=>pb1 (gr ts f .arith i1) fun m i2=>gr ts f (.cmpL n (acc++ [.mk 43 (nowT ts i).line [] (op+1) [m]])) i2
 | f+1, .arith,i=>pb1 (gr ts f .term i) fun n i1=>gr ts f (.arithL n) i1
 | f+1, .arithL n,i=>if isT ts i s_plus=true then pb1 (gr ts f .term (i+1)) fun m i1=>gr ts f (.arithL (.mk 37 n.line [] 1 [n,m])) i1
    else if isT ts i s_minus=true then pb1 (gr ts f .term (i+1)) fun m i1=>gr ts f (.arithL (.mk 37 n.line [] 2 [n,m])) i1 else pk1 n i
 | f+1, .term,i=>pb1 (gr ts f .factor i) fun n i1=>gr ts f (.termL n) i1
 | f+1, .termL n,i=>if isT ts i s_star=true then pb1 (gr ts f .factor (i+1)) fun m i1=>gr ts f (.termL (.mk 37 n.line [] 3 [n,m])) i1
    else if isT ts i s_slash=true then pb1 (gr ts f .factor (i+1)) fun m i1=>gr ts f (.termL (.mk 37 n.line [] 4 [n,m])) i1
    else if isT ts i s_dslash=true then pb1 (gr ts f .factor (i+1)) fun m i1=>gr ts f (.termL (.mk 37 n.line [] 5 [n,m])) i1
    else if isT ts i s_pct=true then pb1 (gr ts f .factor (i+1)) fun m i1=>gr ts f (.termL (.mk 37 n.line [] 6 [n,m])) i1 else pk1 n i
 | f+1, .factor,i=>if isT ts i s_plus=true then pb1 (gr ts f .factor (i+1)) fun n i1=>pk1 (.mk 38 (nowT ts i).line [] 2 [n]) i1
    else if isT ts i s_minus=true then pb1 (gr ts f .factor (i+1)) fun n i1=>pk1 (.mk 38 (nowT ts i).line [] 1 [n]) i1
    else pb1 (gr ts f .primary i) fun n i1=>if isT ts i1 s_dstar=true then pb1 (gr ts f .factor (i1+1)) fun m i2=>pk1 (.mk 37 n.line [] 7 [n,m]) i2 else pk1 n i1
 | f+1, .primary,i=>pb1 (gr ts f .atom i) fun n i1=>gr ts f (.primL n) i1
 | f+1, .primL n,i=>if isT ts i s_dot=true then wantK ts 4 (i+1) fun s i1=>gr ts f (.primL (.mk 45 n.line s 0 [n])) i1
    else if isT ts i s_lpar=true then pb (gr ts f (.row s_rpar []) (i+1)) fun l i1=>wantB ts s_rpar i1 fun i2=>gr ts f (.primL (nd 44 n.line (n::l))) i2
    else if isT ts i s_lbrk=true then pb1 (gr ts f (.index n) (i+1)) fun m i1=>wantB ts s_rbrk i1 fun i2=>gr ts f (.primL m) i2 else pk1 n i
 | f+1, .index n,i=>if isT ts i s_colon=true then wantB ts s_colon i fun i2=>if isT ts i2 s_rbrk=true then pk1 (nd 47 n.line [n,nd 48 n.line [],nd 48 n.line []]) i2
      else pb1 (gr ts f .expr i2) fun hi i3=>pk1 (nd 47 n.line [n,nd 48 n.line [],hi]) i3
    else pb1 (gr ts f .expr i) fun lo i1=>if isT ts i1 s_comma=true then pb1 (gr ts f (.exprsL lo.line [lo]) i1) fun m i2=>pk1 (nd 46 n.line [n,m]) i2
     else if isT ts i1 s_colon=true then (if isT ts (i1+1) s_rbrk=true then pk1 (nd 47 n.line [n,lo,nd 48 n.line []]) (i1+1)
      else pb1 (gr ts f .expr (i1+1)) fun hi i3=>pk1 (nd 47 n.line [n,lo,hi]) i3) else pk1 (nd 46 n.line [n,lo]) i1
 | f+1, .atom,i=>if 4≤(nowT ts i).kind∧(nowT ts i).kind≤7 then pk1 (.mk (leafK (nowT ts i).kind) (nowT ts i).line (nowT ts i).text 0 []) (i+1)
    else if isT ts i s_None=true then pk1 (nd 33 (nowT ts i).line []) (i+1) else if isT ts i s_True=true then pk1 (nd 34 (nowT ts i).line []) (i+1)
    else if isT ts i s_False=true then pk1 (nd 35 (nowT ts i).line []) (i+1)
    else if isT ts i s_lpar=true then (if isT ts (i+1) s_rpar=true then pk1 (nd 52 (nowT ts i).line []) (i+2) else pb1 (gr ts f .exprs (i+1)) fun n i1=>wantB ts s_rpar i1 fun i2=>pk1 n i2)
    else if isT ts i s_lbrk=true then pb1 (gr ts f (.list (nowT ts i).line) (i+1)) fun n i1=>wantB ts s_rbrk i1 fun i2=>pk1 n i2
    else if isT ts i s_lbrc=true then pb1 (gr ts f (.braces (nowT ts i).line) (i+1)) fun n i1=>wantB ts s_rbrc i1 fun i2=>pk1 n i2
    else some (.error i)
 | f+1, .exprs,i=>pb1 (gr ts f .expr i) fun n i1=>if isT ts i1 s_comma=true then gr ts f (.exprsL n.line [n]) i1 else pk1 n i1
 | f+1, .exprsL l acc,i=>if isT ts i s_comma=true then (if begT ts (i+1)=true then pb1 (gr ts f .expr (i+1)) fun e i1=>gr ts f (.exprsL l (acc++ [e])) i1 else pk1 (nd 52 l acc) (i+1)) else pk1 (nd 52 l acc) i
 | f+1, .row cl acc,i=>if isT ts i cl=true then some (.ok (acc,i)) else pb1 (gr ts f .expr i) fun e i1=>if isT ts i1 s_comma=true then gr ts f (.row cl (acc++ [e])) (i1+1) else some (.ok (acc++ [e],i1))
 | f+1, .params cl l acc,i=>if isT ts i cl=true then pk1 (nd 23 l acc) i else wantK ts 4 i fun s i1=>if isT ts i1 s_comma=true then gr ts f (.params cl l (acc++ [.mk 36 (nowT ts i).line s 0 []])) (i1+1) else pk1 (nd 23 l (acc++ [.mk 36 (nowT ts i).line s 0 []])) i1
 | f+1, .clauses acc,i=>if isT ts i s_for=true then pb1 (gr ts f .places (i+1)) fun p i1=>wantB ts s_in i1 fun i2=>pb1 (gr ts f .or i2) fun e i3=>gr ts f (.clauses (acc++ [nd 58 (nowT ts i).line [p,e]])) i3
    else if isT ts i s_if=true then pb1 (gr ts f .or (i+1)) fun e i1=>gr ts f (.clauses (acc++ [nd 59 (nowT ts i).line [e]])) i1 else some (.ok (acc,i))
 | f+1, .list l,i=>if isT ts i s_rbrk=true then pk1 (nd 51 l []) i else pb1 (gr ts f .expr i) fun e i1=>if isT ts i1 s_for=true then pb (gr ts f (.clauses []) i1) fun cs i2=>pk1 (nd 55 l (e::cs)) i2
    else if isT ts i1 s_comma=true then pb (gr ts f (.row s_rbrk []) (i1+1)) fun r i2=>pk1 (nd 51 l (e::r)) i2 else pk1 (nd 51 l [e]) i1
 | f+1, .braces l,i=>if isT ts i s_rbrc=true then pk1 (nd 54 l []) i else pb1 (gr ts f .expr i) fun e i1=>if isT ts i1 s_colon=true then
     pb1 (gr ts f .expr (i1+1)) fun v i2=>if isT ts i2 s_for=true then pb (gr ts f (.clauses []) i2) fun cs i3=>pk1 (nd 57 l (e::v::cs)) i3 else gr ts f (.dictL l [e,v]) i2
    else if isT ts i1 s_for=true then pb (gr ts f (.clauses []) i1) fun cs i2=>pk1 (nd 56 l (e::cs)) i2
    else if isT ts i1 s_comma=true then pb (gr ts f (.row s_rbrc []) (i1+1)) fun r i2=>pk1 (nd 53 l (e::r)) i2 else pk1 (nd 53 l [e]) i1
 | f+1, .dictL l acc,i=>if isT ts i s_comma=true then (if isT ts (i+1) s_rbrc=true then pk1 (nd 54 l acc) (i+1) else pb1 (gr ts f .expr (i+1)) fun k i1=>wantB ts s_colon i1 fun i2=>pb1 (gr ts f .expr i2) fun v i3=>gr ts f (.dictL l (acc++ [k,v])) i3) else pk1 (nd 54 l acc) i
 | f+1, .one,i=>pb1 (gr ts f .primary i) fun n i1=>if placeN n=true then pk1 n i1 else some (.error i1)
 | f+1, .places,i=>pb1 (gr ts f .one i) fun n i1=>if isT ts i1 s_comma=true then gr ts f (.placesL n.line [n]) i1 else pk1 n i1
 | f+1, .placesL l acc,i=>if isT ts i s_comma=true then (if begT ts (i+1)=true∧isT ts (i+1) s_plus=false∧isT ts (i+1) s_minus=false∧isT ts (i+1) s_not=false∧isT ts (i+1) s_lambda=false then pb1 (gr ts f .one (i+1)) fun e i1=>gr ts f (.placesL l (acc++ [e])) i1 else pk1 (nd 52 l acc) (i+1)) else pk1 (nd 52 l acc) i
 | f+1, .names k l acc,i=>wantK ts 4 i fun s i1=>if isT ts i1 s_comma=true then gr ts f (.names k l (acc++ [.mk 36 (nowT ts i).line s 0 []])) (i1+1) else pk1 (nd k l (acc++ [.mk 36 (nowT ts i).line s 0 []])) i1
 | f+1, .maybe k l all,i=>if begT ts i=true then pb1 (gr ts f (if all=true then .exprs else .expr) i) fun e i1=>pk1 (nd k l [e]) i1 else pk1 (nd k l []) i
 | f+1, .value,i=>if isT ts i s_yield=true then gr ts f (.maybe 60 (nowT ts i).line true) (i+1) else gr ts f .exprs i
 | f+1, .plain,i=>pb1 (gr ts f .exprs i) fun n i1=>if isT ts i1 s_asg=true then gr ts f (.asgL n.line [n]) i1
    else if augT ts i1=0 then pk1 (nd 2 n.line [n]) i1 else if singleN n=true then pb1 (gr ts f .exprs (i1+1)) fun m i2=>pk1 (.mk 4 n.line [] (augT ts i1) [n,m]) i2 else some (.error i1)
 | f+1, .asgL l acc,i=>if isT ts i s_asg=true then (match acc.getLast? with
     | some n=>if placeN n=true then pb1 (gr ts f .value (i+1)) fun v i1=>gr ts f (.asgL l (acc++ [v])) i1 else some (.error i)
     | none=>none) else pk1 (nd 3 l acc) i
 | f+1, .simple,i=>if isT ts i s_pass=true then pk1 (nd 11 (nowT ts i).line []) (i+1) else if isT ts i s_break=true then pk1 (nd 12 (nowT ts i).line []) (i+1)
    else if isT ts i s_continue=true then pk1 (nd 13 (nowT ts i).line []) (i+1) else if isT ts i s_return=true then gr ts f (.maybe 10 (nowT ts i).line true) (i+1)
    else if isT ts i s_raise=true then gr ts f (.maybe 14 (nowT ts i).line false) (i+1) else if isT ts i s_global=true then gr ts f (.names 17 (nowT ts i).line []) (i+1)
    else if isT ts i s_nonlocal=true then gr ts f (.names 18 (nowT ts i).line []) (i+1) else if isT ts i s_assert=true then pb1 (gr ts f .expr (i+1)) fun e i1=>pk1 (nd 20 (nowT ts i).line [e]) i1
    else if isT ts i s_yield=true then pb1 (gr ts f (.maybe 60 (nowT ts i).line true) (i+1)) fun e i1=>pk1 (nd 2 (nowT ts i).line [e]) i1
    else if isT ts i s_del=true then pb1 (gr ts f .primary (i+1)) fun n i1=>if singleN n=true then pk1 (nd 19 (nowT ts i).line [n]) i1 else some (.error i1)
    else gr ts f .plain i
 | f+1, .block,i=>if (nowT ts i).kind=1 then wantK ts 2 (i+1) fun _ i1=>gr ts f (.blockL []) i1 else pb1 (gr ts f .simple i) fun n i1=>wantK ts 1 i1 fun _ i2=>pk1 (nd 1 n.line [n]) i2
 | f+1, .blockL acc,i=>pb1 (gr ts f .stmt i) fun s i1=>if (nowT ts i1).kind=3 then pk1 (nd 1 (hdLine 0 (acc++ [s])) (acc++ [s])) (i1+1) else gr ts f (.blockL (acc++ [s])) i1
 | f+1, .ifs l,i=>pb1 (gr ts f .expr i) fun c i1=>wantB ts s_colon i1 fun i2=>pb1 (gr ts f .block i2) fun b i3=>if isT ts i3 s_elif=true then
     pb1 (gr ts f (.ifs (nowT ts i3).line) (i3+1)) fun x i4=>pk1 (nd 5 l [c,b,nd 1 (nowT ts i3).line [x]]) i4
    else if isT ts i3 s_else=true then wantB ts s_colon (i3+1) fun i4=>pb1 (gr ts f .block i4) fun e i5=>pk1 (nd 5 l [c,b,e]) i5 else pk1 (nd 5 l [c,b]) i3
 | f+1, .tries l,i=>wantB ts s_colon i fun i1=>pb1 (gr ts f .block i1) fun b i2=>pb (gr ts f (.triesL [b]) i2) fun acc i3=>gr ts f (.triesF l acc) i3
 | f+1, .triesL acc,i=>if isT ts i s_except=true then (if isT ts (i+1) s_colon=true then pb1 (gr ts f .block (i+2)) fun b i1=>some (.ok (acc++ [nd 21 (nowT ts i).line [b]],i1))
     else pb1 (gr ts f .expr (i+1)) fun e i1=>if isT ts i1 s_as=true then wantK ts 4 (i1+1) fun s i2=>wantB ts s_colon i2 fun i3=>pb1 (gr ts f .block i3) fun b i4=>gr ts f (.triesL (acc++ [.mk 21 (nowT ts i).line s 0 [e,b]])) i4
      else wantB ts s_colon i1 fun i3=>pb1 (gr ts f .block i3) fun b i4=>gr ts f (.triesL (acc++ [nd 21 (nowT ts i).line [e,b]])) i4) else some (.ok (acc,i))
 | f+1, .triesF l acc,i=>if isT ts i s_finally=true then wantB ts s_colon (i+1) fun i1=>pb1 (gr ts f .block i1) fun b i2=>pk1 (nd 15 l (acc++ [nd 22 (nowT ts i).line [b]])) i2
    else if acc.length=1 then some (.error i) else pk1 (nd 15 l acc) i
 | f+1, .stmt,i=>if isT ts i s_if=true then gr ts f (.ifs (nowT ts i).line) (i+1)
    else if isT ts i s_while=true then pb1 (gr ts f .expr (i+1)) fun c i1=>wantB ts s_colon i1 fun i2=>pb1 (gr ts f .block i2) fun b i3=>pk1 (nd 6 (nowT ts i).line [c,b]) i3
    else if isT ts i s_for=true then pb1 (gr ts f .places (i+1)) fun p i1=>wantB ts s_in i1 fun i2=>pb1 (gr ts f .exprs i2) fun e i3=>wantB ts s_colon i3 fun i4=>pb1 (gr ts f .block i4) fun b i5=>pk1 (nd 7 (nowT ts i).line [p,e,b]) i5
    else if isT ts i s_def=true then wantK ts 4 (i+1) fun s i1=>wantB ts s_lpar i1 fun i2=>pb1 (gr ts f (.params s_rpar (nowT ts i).line []) i2) fun p i3=>wantB ts s_rpar i3 fun i4=>wantB ts s_colon i4 fun i5=>pb1 (gr ts f .block i5) fun b i6=>pk1 (.mk 8 (nowT ts i).line s 0 [p,b]) i6
    else if isT ts i s_class=true then wantK ts 4 (i+1) fun s i1=>if isT ts i1 s_lpar=true then pb (gr ts f (.row s_rpar []) (i1+1)) fun bs i2=>wantB ts s_rpar i2 fun i3=>wantB ts s_colon i3 fun i4=>pb1 (gr ts f .block i4) fun b i5=>pk1 (.mk 9 (nowT ts i).line s 0 [nd 24 (nowT ts i).line bs,b]) i5
     else wantB ts s_colon i1 fun i4=>pb1 (gr ts f .block i4) fun b i5=>pk1 (.mk 9 (nowT ts i).line s 0 [nd 24 (nowT ts i).line [],b]) i5
    else if isT ts i s_try=true then gr ts f (.tries (nowT ts i).line) (i+1)
    else if isT ts i s_with=true then pb1 (gr ts f .expr (i+1)) fun e i1=>if isT ts i1 s_as=true then wantK ts 4 (i1+1) fun s i2=>wantB ts s_colon i2 fun i3=>pb1 (gr ts f .block i3) fun b i4=>pk1 (.mk 16 (nowT ts i).line s 0 [e,b]) i4
     else wantB ts s_colon i1 fun i3=>pb1 (gr ts f .block i3) fun b i4=>pk1 (nd 16 (nowT ts i).line [e,b]) i4
    else pb1 (gr ts f .simple i) fun n i1=>wantK ts 1 i1 fun _ i2=>pk1 n i2
 | f+1, .top acc,i=>if (nowT ts i).kind=0 then some (.ok (acc,i)) else pb1 (gr ts f .stmt i) fun s i1=>gr ts f (.top (acc++ [s])) i1
end Can
end Go.Proofs.YtnankhlanilbbaaGreat
end
section
namespace Go.Proofs.YtnankhlanilbbaaGreat
namespace Can
set_option linter.unusedSimpArgs false
set_option linter.unusedVariables false
def Gd (E:Nat→Prop)(P:List Nd→Nat→Prop):PR→Prop
 | none=>False
 | some (.error e)=>E e
 | some (.ok (l,j))=>P l j
theorem Gd.mono{E E':Nat→Prop}{P P':List Nd→Nat→Prop}{r:PR}(h:Gd E P r)(hE : ∀e,E e→E' e)(hP : ∀l j,P l j→P' l j):Gd E' P' r:=by
 match r,h with
 | some (.error e),h=>exact hE e h
 | some (.ok (l,j)),h=>exact hP l j h
theorem gd_pb{E:Nat→Prop}{P:List Nd→Nat→Prop}{r:PR}{k:List Nd→Nat→PR}:Gd E P (pb r k)↔Gd E (fun l j=>Gd E P (k l j)) r:=by
 match r with
 | none=>exact Iff.rfl
 | some (.error e)=>exact Iff.rfl
 | some (.ok (l,j))=>exact Iff.rfl
theorem gd_pb1{E:Nat→Prop}{P:List Nd→Nat→Prop}{r:PR}{k:Nd→Nat→PR}:Gd E P (pb1 r k)↔Gd E (fun l j=>∃t,l= [t]∧Gd E P (k t j)) r:=by
 match r with
 | none=>exact Iff.rfl
 | some (.error e)=>exact Iff.rfl
 | some (.ok ([],j))=>simp[pb1,pb,Gd]
 | some (.ok ([t],j))=>simp[pb1,pb,Gd]
 | some (.ok (t::u::l,j))=>simp[pb1,pb,Gd]
theorem isT_lt'{ts:List PT}{i:Nat}{s:List UInt8}(h:isT ts i s=true):i<ts.length:=by
 unfold isT at h
 rcases Nat.lt_or_ge i ts.length with g | g
 ·exact g
 ·have hk:(nowT ts i).kind=0:=by
   unfold nowT
   rw[List.getElem?_eq_none g]
   cases ts.getLast?<;>rfl
  rw[hk] at h
  simp at h
theorem kd_lt{ts:List PT}{i:Nat}(h:(nowT ts i).kind≠0):i<ts.length:=by
 rcases Nat.lt_or_ge i ts.length with g | g
 ·exact g
 ·exfalso
  apply h
  unfold nowT
  rw[List.getElem?_eq_none g]
  cases ts.getLast?<;>rfl
theorem isT_no{ts:List PT}{i:Nat}{s:List UInt8}(h:(nowT ts i).kind≠if isWd s=true then 8 else 9):isT ts i s=false:=by
 unfold isT
 apply decide_eq_false
 rintro⟨h1,_,h3⟩
 apply h
 cases hw:isWd s with
 | true=>
   rw[hw] at h3
   rw[if_pos rfl]
   exact of_decide_eq_true h3.symm
 | false=>
   rw[hw] at h3
   rw[if_neg (by decide)]
   rcases h1 with h1 | h1
   ·exact absurd h1 (of_decide_eq_false h3.symm)
   ·exact h1
theorem beg_k{ts:List PT}{i:Nat}(h:4≤(nowT ts i).kind∧(nowT ts i).kind≤7):begT ts i=true:=by
 unfold begT
 rw[decide_eq_true h]
 simp only[Bool.true_or]
theorem beg_n{ts:List PT}{i:Nat}(h : ¬(4≤(nowT ts i).kind∧(nowT ts i).kind≤7))(h8:(nowT ts i).kind≠8)(h9:(nowT ts i).kind≠9):begT ts i=false:=by
 unfold begT
 rw[decide_eq_false h]
 repeat rw[isT_no (by split<;>assumption)]
 rfl
theorem beg_w{ts:List PT}{i:Nat}(h:(nowT ts i).kind=8):begT ts i=(isT ts i s_lambda||isT ts i s_not||isT ts i s_None||isT ts i s_True||isT ts i s_False):=by
 have hn : ∀s,isWd s=false→isT ts i s=false:=fun s hs=>isT_no (by rw[h,hs];decide)
 unfold begT
 rw[decide_eq_false (by rw[h];decide),hn s_plus rfl,hn s_minus rfl,hn s_lpar rfl,hn s_lbrk rfl,hn s_lbrc rfl]
 simp only[Bool.false_or,Bool.or_false]
theorem beg_s{ts:List PT}{i:Nat}(h:(nowT ts i).kind=9):begT ts i=(isT ts i s_plus||isT ts i s_minus||isT ts i s_lpar||isT ts i s_lbrk||isT ts i s_lbrc):=by
 have hn : ∀s,isWd s=true→isT ts i s=false:=fun s hs=>isT_no (by rw[h,hs];decide)
 unfold begT
 rw[decide_eq_false (by rw[h];decide),hn s_lambda rfl,hn s_not rfl,hn s_None rfl,hn s_True rfl,hn s_False rfl]
 simp only[Bool.false_or]
theorem gd_wantB{ts:List PT}{s:List UInt8}{i:Nat}{k:Nat→PR}{E:Nat→Prop}{P:List Nd→Nat→Prop}(h1:E i)(h2:i<ts.length→Gd E P (k (i+1))):Gd E P (wantB ts s i k):=by
 unfold wantB
 split
 ·rename_i h;exact h2 (isT_lt' h)
 ·exact h1
theorem gd_wantK{ts:List PT}{kd:Int}(h0:kd≠0){i:Nat}{k:List UInt8→Nat→PR}{E:Nat→Prop}{P:List Nd→Nat→Prop}(h1:E i)(h2:i<ts.length→Gd E P (k (nowT ts i).text (i+1))):Gd E P (wantK ts kd i k):=by
 unfold wantK
 split
 ·rename_i h;exact h2 (kd_lt (by rw[h];exact h0))
 ·exact h1
theorem gd_if{ts:List PT}{s:List UInt8}{i:Nat}{a b:PR}{E:Nat→Prop}{P:List Nd→Nat→Prop}(h1:i<ts.length→Gd E P a)(h2:Gd E P b):Gd E P (if isT ts i s=true then a else b):=by
 split
 ·rename_i h;exact h1 (isT_lt' h)
 ·exact h2
theorem gd_ite{c:Prop}[Decidable c]{a b:PR}{E:Nat→Prop}{P:List Nd→Nat→Prop}(h1:c→Gd E P a)(h2 : ¬c→Gd E P b):Gd E P (if c then a else b):=by
 split
 ·rename_i h;exact h1 h
 ·rename_i h;exact h2 h
theorem gd_ok{l:List Nd}{j:Nat}{E:Nat→Prop}{P:List Nd→Nat→Prop}(h:P l j):Gd E P (some (.ok (l,j))):=h
theorem gd_er{e:Nat}{E:Nat→Prop}{P:List Nd→Nat→Prop}(h:E e):Gd E P (some (.error e)):=h
theorem gd_pk{t:Nd}{j:Nat}{E:Nat→Prop}{P:List Nd→Nat→Prop}(h:P [t] j):Gd E P (pk1 t j):=h
def NT.rank:NT→Nat
 | .atom=>1
 | .primary=>2
 | .factor=>3
 | .term=>4
 | .arith=>5
 | .compare=>6
 | .not=>7
 | .and=>8
 | .or=>9
 | .expr=>10
 | .exprs=>11
 | .one=>3
 | .places=>4
 | .value=>13
 | .plain=>14
 | .simple=>15
 | .block=>16
 | .stmt=>17
 | .maybe _ _ _=>12
 | .row _ _=>11
 | .index _=>11
 | .list _=>11
 | .braces _=>11
 | .blockL _=>18
 | .ifs _=>11
 | .top _=>18
 | .triesF _ _=>0
 | _=>11
def NT.min:NT→Nat
 | .params _ _ _ | .row _ _ | .exprsL _ _ | .orL _ | .andL _ | .cmpL _ _ | .arithL _ | .termL _ | .primL _ | .clauses _ | .list _ | .braces _ | .dictL _ _ | .placesL _ _ | .maybe _ _ _ | .asgL _ _ | .triesL _ | .triesF _ _ | .top _=>0
 | .stmt=>2
 | _=>1
def NT.good:NT→Prop
 | .asgL _ acc=>acc≠ []
 | _=>True
def NT.acc:NT→Option Nat
 | .row _ acc=>some acc.length
 | .clauses acc=>some acc.length
 | .triesL acc=>some acc.length
 | .top acc=>some acc.length
 | _=>none
def NT.post(a:NT)(i n:Nat)(l:List Nd)(j:Nat):Prop:=i+a.min≤j∧j≤n∧match a.acc with
 | some m=>2*l.length+i≤2*m+j+1∧m≤l.length
 | none=>l.length=1
theorem nd_one_of{l:List Nd}(h:l.length=1) : ∃t,l= [t]:=by
 match l,h with
 | [t],_=>exact⟨t,rfl⟩
theorem last_ne{acc:List Nd}(h:acc≠ []) : ∃t,acc.getLast? = some t:=by
 cases hq:acc.getLast? with
 | none=>exact absurd (List.getLast?_eq_none_iff.1 hq) h
 | some t=>exact⟨t,rfl⟩
def GrOk (ts:List PT)(f:Nat):Prop:=∀(a:NT) (i:Nat),a.good→i≤ts.length→ts.length*64+a.rank<f+i*64→Gd (fun e=>i≤e∧e≤ts.length) (a.post i ts.length) (gr ts f a i)
theorem GrOk.one{ts:List PT}{f:Nat}(h:GrOk ts f){a:NT}{i:Nat}(hg:a.good)(hi:i≤ts.length)(hf:ts.length*64+a.rank<f+i*64){E:Nat→Prop}{P:List Nd→Nat→Prop}(hE : ∀e,i≤e→e≤ts.length→E e){k:Nd→Nat→PR}(ha:a.acc=none)(hP : ∀t j,i+a.min≤j→j≤ts.length→Gd E P (k t j)):Gd E P (pb1 (gr ts f a i) k):=by
 rw[gd_pb1]
 refine(h a i hg hi hf).mono (fun e h=>hE e h.1 h.2) fun l j h=> ?_
 unfold NT.post at h
 rw[ha] at h
 obtain⟨h1,h2,h3⟩:=h
 obtain⟨t,rfl⟩:=nd_one_of h3
 exact⟨t,rfl,hP t j h1 h2⟩
theorem GrOk.lst{ts:List PT}{f:Nat}(h:GrOk ts f){a:NT}{i:Nat}(hg:a.good)(hi:i≤ts.length)(hf:ts.length*64+a.rank<f+i*64){E:Nat→Prop}{P:List Nd→Nat→Prop}(hE : ∀e,i≤e→e≤ts.length→E e){k:List Nd→Nat→PR}(ha:a.acc=some (a.acc.getD 0))(hP : ∀l j,i≤j→j≤ts.length→2*l.length+i≤2*a.acc.getD 0+j+1→a.acc.getD 0≤l.length→Gd E P (k l j)):Gd E P (pb (gr ts f a i) k):=by
 rw[gd_pb]
 refine(h a i hg hi hf).mono (fun e h=>hE e h.1 h.2) fun l j h=> ?_
 unfold NT.post at h
 rw[ha] at h
 obtain⟨h1,h2,h3,h4⟩:=h
 exact hP l j (by omega) h2 h3 h4
theorem GrOk.nxt{ts:List PT}{f:Nat}(h:GrOk ts f){a:NT}{i:Nat}(hg:a.good)(hi:i≤ts.length)(hf:ts.length*64+a.rank<f+i*64){E:Nat→Prop}{P:List Nd→Nat→Prop}(hE : ∀e,i≤e→e≤ts.length→E e)(hP : ∀l j,i+a.min≤j→j≤ts.length→(match a.acc with | some m=>2*l.length+i≤2*m+j+1∧m≤l.length | none=>l.length=1)→P l j):Gd E P (gr ts f a i):=by
 refine(h a i hg hi hf).mono (fun e h=>hE e h.1 h.2) fun l j h=> ?_
 obtain⟨h1,h2,h3⟩:=h
 exact hP l j h1 h2 h3
def OpG (ts:List PT)(i:Nat)(r:Except Nat (Nat×Nat)):Prop:=match r with
 | .error e=>i≤e∧e≤ts.length
 | .ok (op,j)=>(op=0∧j=i)∨(op≠0∧i<j∧j≤ts.length)
theorem opG_if{ts:List PT}{i k:Nat}{s:List UInt8}{a b:Except Nat (Nat×Nat)}(h1:k<ts.length→OpG ts i a)(h2:OpG ts i b):OpG ts i (if isT ts k s=true then a else b):=by
 split
 ·rename_i h;exact h1 (isT_lt' h)
 ·exact h2
theorem opG_ok{ts:List PT}{i op j:Nat}(h0:op≠0)(h1:i<j)(h2:j≤ts.length):OpG ts i (.ok (op,j)):=Or.inr ⟨h0,h1,h2⟩
theorem opG_0{ts:List PT}{i:Nat}:OpG ts i (.ok (0,i)):=Or.inl ⟨rfl,rfl⟩
theorem opG_er{ts:List PT}{i e:Nat}(h1:i≤e)(h2:e≤ts.length):OpG ts i (.error e):=⟨h1,h2⟩
theorem opT_gd{ts:List PT}{i:Nat}(hi:i≤ts.length):OpG ts i (opT ts i):=by
 unfold opT
 repeat' first | exact opG_0 | exact opG_ok (by decide) (by omega) (by omega) | exact opG_er (by omega) (by omega) | refine opG_if (fun h=> ?_) ?_
theorem augT_lt{ts:List PT}{i:Nat}(h : ¬augT ts i=0):i<ts.length:=by
 unfold augT at h
 rcases Nat.lt_or_ge i ts.length with g | g
 ·exact g
 ·exfalso
  have hn : ∀s,isT ts i s=false:=fun s=>by
   cases hs:isT ts i s with
   | true=>have:=isT_lt' hs;omega
   | false=>rfl
  simp[hn] at h
theorem gd_op{ts:List PT}{i:Nat}(hi:i≤ts.length){E:Nat→Prop}{P:List Nd→Nat→Prop}(hE : ∀e,i≤e→e≤ts.length→E e){A:PR}{B:Nat→Nat→PR}(hA:Gd E P A)(hB : ∀op j,i<j→j≤ts.length→Gd E P (B op j)):Gd E P (match opT ts i with | .error e=>some (.error e) | .ok (0,_)=>A | .ok (op+1,j)=>B op j):=by
 have ho:=opT_gd hi
 match opT ts i,ho with
 | .error e,ho=>exact hE e ho.1 ho.2
 | .ok (0,_),_=>exact hA
 | .ok (op+1,j),ho=>
   rcases ho with ⟨h,_⟩ | ⟨_,h1,h2⟩
   ·cases h
   ·exact hB op j h1 h2
set_option maxHeartbeats 4000000 in
theorem grOk_succ{ts:List PT}{f:Nat}(ih:GrOk ts f):GrOk ts (f+1):=by
 intro a i hg hi hf
 cases a
 case' maybe k l c=>cases c
 case' asgL l acc=>obtain⟨t,ht⟩:=last_ne hg
 all_goals first | simp only[gr,ht] | simp only[gr,Bool.false_eq_true,if_false,if_true]
 case' cmpL n acc=>refine gd_op hi (fun e h1 h2=>⟨h1,h2⟩) ?_ fun op j h1 h2=> ?_
 all_goals (repeat' first | (have h0:=kd_lt (by rw[h];decide);clear h) | (have h0:=kd_lt (i:=i) (ts:=ts) (by omega);clear h) | (have h0:=augT_lt h;clear h) | (with_reducible refine gd_if (fun h=> ?_) ?_) | ((with_reducible refine gd_wantB ?_ ?_);exact⟨by omega,by omega⟩;intro h) | ((with_reducible refine gd_wantK ?_ ?_ ?_);decide;exact⟨by omega,by omega⟩;intro h) | ((with_reducible refine gd_er ?_);exact⟨by omega,by omega⟩) | ((with_reducible refine gd_pk ?_);(refine⟨?_,by omega,?_⟩<;>(simp only[NT.min,NT.acc,List.length_nil,List.length_cons,List.length_append]<;>omega))) | ((with_reducible refine gd_ok ?_);(refine⟨?_,by omega,?_⟩<;>(simp only[NT.min,NT.acc,List.length_nil,List.length_cons,List.length_append]<;>omega))) | ((with_reducible refine ih.one ?_ ?_ ?_ ?_ ?_ ?_);(first | exact True.intro | simp[NT.good]);omega;(simp only[NT.rank] at hf⊢;omega);(intro e g5 g6;exact⟨by omega,g6⟩);rfl;intro t j g1 g3;simp only[NT.min] at g1) | ((with_reducible refine ih.lst ?_ ?_ ?_ ?_ ?_ ?_);(first | exact True.intro | simp[NT.good]);omega;(simp only[NT.rank] at hf⊢;omega);(intro e g5 g6;exact⟨by omega,g6⟩);rfl;intro l j g1 g2 g3 g4;(simp only[NT.acc,Option.getD_some,List.length_nil,List.length_cons,List.length_append] at g3 g4)) | ((with_reducible refine ih.nxt ?_ ?_ ?_ ?_ ?_);(first | exact True.intro | simp[NT.good]);omega;(simp only[NT.rank] at hf⊢;omega);(intro e g5 g6;exact⟨by omega,g6⟩);intro l j g1 g3 g4;simp only[NT.acc,List.length_nil,List.length_cons,List.length_append] at g4;simp only[NT.min] at g1;(refine⟨?_,by omega,?_⟩<;>(simp only[NT.min,NT.acc,List.length_nil,List.length_cons,List.length_append]<;>omega))) | (with_reducible refine gd_ite (fun h=> ?_) (fun h=> ?_)))
theorem gr_gd{ts:List PT} : ∀f,GrOk ts f
 | 0=>fun a i _ hi h=>by omega
 | f+1=>grOk_succ (gr_gd f)
end Can
end Go.Proofs.YtnankhlanilbbaaGreat
end
section
namespace Go.Proofs.YtnankhlanilbbaaGreat
namespace Can
set_option linter.unusedSimpArgs false
set_option linter.unusedVariables false
def LeP (a b:PR):Prop:=∀r,a=some r→b=some r
theorem LeP.refl{a:PR}:LeP a a:=fun _ h=>h
theorem le_pb{r r':PR}{k k':List Nd→Nat→PR}(h:LeP r r')(hk : ∀l j,LeP (k l j) (k' l j)):LeP (pb r k) (pb r' k'):=fun x hx=>by
 match r,h,hx with
 | none,_,hx=>cases hx
 | some (.error e),h,hx=>rw[h _ rfl];exact hx
 | some (.ok (l,j)),h,hx=>rw[h _ rfl];exact hk l j x hx
theorem le_pb1{r r':PR}{k k':Nd→Nat→PR}(h:LeP r r')(hk : ∀t j,LeP (k t j) (k' t j)):LeP (pb1 r k) (pb1 r' k'):=le_pb h fun l j=>by
 match l with
 | []=>exact LeP.refl
 | [t]=>exact hk t j
 | _::_::_=>exact LeP.refl
theorem le_wantB{ts:List PT}{s:List UInt8}{i:Nat}{k k':Nat→PR}(hk : ∀j,LeP (k j) (k' j)):LeP (wantB ts s i k) (wantB ts s i k'):=by
 unfold wantB
 split
 ·exact hk _
 ·exact LeP.refl
theorem le_wantK{ts:List PT}{kd:Int}{i:Nat}{k k':List UInt8→Nat→PR}(hk : ∀s j,LeP (k s j) (k' s j)):LeP (wantK ts kd i k) (wantK ts kd i k'):=by
 unfold wantK
 split
 ·exact hk _ _
 ·exact LeP.refl
theorem le_ite{c:Prop}[Decidable c]{a b a' b':PR}(h1:LeP a a')(h2:LeP b b'):LeP (if c then a else b) (if c then a' else b'):=by
 split
 ·exact h1
 ·exact h2
def MnOk (ts:List PT)(f g:Nat):Prop:=∀a i,LeP (gr ts f a i) (gr ts g a i)
theorem mnOk_succ{ts:List PT}{f g:Nat}(ih:MnOk ts f g):MnOk ts (f+1) (g+1):=by
 have ih : ∀a i,LeP (gr ts f a i) (gr ts g a i):=ih
 intro a i
 cases a
 case cmpL n b=>
  simp only[gr]
  split
  all_goals repeat' first | (with_reducible exact LeP.refl) | (with_reducible exact ih _ _) | (with_reducible refine le_ite ?_ ?_) | (with_reducible refine le_wantB fun _=> ?_) | (with_reducible refine le_wantK fun _ _=> ?_) | (with_reducible refine le_pb1 (ih _ _) fun _ _=> ?_) | (with_reducible refine le_pb (ih _ _) fun _ _=> ?_)
 case asgL a b=>
  simp only[gr]
  cases b.getLast? with
  | none=>exact le_ite LeP.refl LeP.refl
  | some t=>repeat' first | (with_reducible exact LeP.refl) | (with_reducible exact ih _ _) | (with_reducible refine le_ite ?_ ?_) | (with_reducible refine le_wantB fun _=> ?_) | (with_reducible refine le_wantK fun _ _=> ?_) | (with_reducible refine le_pb1 (ih _ _) fun _ _=> ?_) | (with_reducible refine le_pb (ih _ _) fun _ _=> ?_)
 all_goals simp only[gr]
 all_goals (repeat' first | (with_reducible exact LeP.refl) | (with_reducible exact ih _ _) | (with_reducible refine le_ite ?_ ?_) | (with_reducible refine le_wantB fun _=> ?_) | (with_reducible refine le_wantK fun _ _=> ?_) | (with_reducible refine le_pb1 (ih _ _) fun _ _=> ?_) | (with_reducible refine le_pb (ih _ _) fun _ _=> ?_))
theorem gr_mn{ts:List PT} : ∀f,MnOk ts f (f+1)
 | 0=>fun a i r h=>by cases h
 | f+1=>mnOk_succ (gr_mn f)
theorem gr_mono{ts:List PT}{f g:Nat}(h:f≤g){a:NT}{i:Nat}{r:Except Nat (List Nd×Nat)}(hr:gr ts f a i=some r):gr ts g a i=some r:=by
 induction h with
 | refl=>exact hr
 | step _ ih=>exact gr_mn _ a i r ih
end Can
end Go.Proofs.YtnankhlanilbbaaGreat
end
section
namespace Go.Proofs.YtnankhlanilbbaaGreat
namespace Can
open Go Go.RowKit
set_option linter.unusedSimpArgs false
set_option linter.unusedVariables false
set_option maxRecDepth 4000
def tokV (t:PT):List Value:= [.int .i64 t.kind, .int .i64 t.line, .string ⟨⟨t.text⟩⟩]
def CTk:CRep PT:=fun _ cs t=>cs=tokV t
def tkC (t:PT):CObj:= .cells (tokV t) 50 .ex
structure Sl where
 q:Option Addr
 n:Nat
 c:Nat
theorem tk_get{K:CH}{q:Option Addr}{c:Nat}{ts:List PT}(h:SlAt 3 CTk K q c ts){i:Nat}(hi:i<ts.length) : ∃l o os e kd,q=some ⟨l,o,none⟩∧K.ob l= .cells os e kd∧l<K.nx∧o+i*3+3≤os.length∧(os.drop (o+i*3)).take 3=tokV ts[i]∧os[o+i*3+1]? = some (.int .i64 ts[i].line):=by
 rcases h with ⟨rfl,_⟩ | ⟨l,o,os,e,kd,rfl,h1,h2,h3,h4,h5,h6⟩
 ·cases hi
 ·have g:_=_:=h6 i hi
  refine⟨l,o,os,e,kd,rfl,h4,h1,by omega,g,?_⟩
  have:os[o+i*3+1]? = (tokV ts[i])[1]? :=by rw[←g,List.getElem?_take_of_lt (by decide),List.getElem?_drop]
  rw[this];rfl
theorem new_set{K:CH}{o o':CObj}:(K.new o).set K.nx o'=K.new o':=by
 unfold CH.set CH.new
 congr 1
 funext k
 by_cases h:k=K.nx
 ·simp[h]
 ·simp[h]
abbrev pS(l:List UInt8):ByteArray:=⟨⟨l⟩⟩
theorem pstr_get{l:List UInt8}{i:Nat}:(pS l)[i]? = l[i]? :=by
 show(if h:i<(pS l).size then some ((pS l)[i]'h) else none)=_
 by_cases h:i<l.length
 ·have h':i<(pS l).size:=h
  rw[dif_pos h',List.getElem?_eq_getElem h];rfl
 ·have h' : ¬i<(pS l).size:=h
  rw[dif_neg h',List.getElem?_eq_none (by omega)]
theorem pstr_eq{a b:List UInt8}:svOf (binOp .eql 0 (.string (pS a)) (.string (pS b)))=some (.bool (decide (a=b))):=by
 have h:((pS a).toList==(pS b).toList)=decide (a=b):=by
  have h : ∀l:List UInt8,(pS l).toList=l:=fun l=>by simp[ByteArray.toList_eq]
  rw[h,h]
  by_cases e:a=b
  ·simp[e]
  ·rw[decide_eq_false e];simpa using e
 simp only[binOp,Op.stringOp,svOf,Pure.pure,h]
def rpC (sl:Sl)(i:Nat):CObj:= .cells [.slice sl.q sl.n sl.c, .int .i64 (i:Nat)] 55 .ex
structure RpP(K:CH)(p:Nat)(sl:Sl)(ts:List PT)(i:Nat):Prop where
 ob:K.ob p=rpC sl i
 pl:p<K.nx
 il:i≤ts.length
 n:sl.n=ts.length
 tk:SlAt 3 CTk K sl.q sl.c ts
theorem RpP.len{K:CH}{p:Nat}{sl:Sl}{ts:List PT}{i:Nat}(h:RpP K p sl ts i):ts.length≤9223372036854775807:=by
 rcases h.tk with ⟨rfl,_⟩ | ⟨l,o,os,e,kd,_,_,h2,h3,_⟩
 ·simp
 ·rw[maxLen_eq] at h3;omega
theorem pnow_wp{K:CH}{p:Nat}{sl:Sl}{ts:List PT}{i:Nat}(h:RpP K p sl ts i):WpF (tblG Tryz.prog LG GG) 24 [.pointer (some ⟨p,0,none⟩)] K fun v K'=>v= .agg (tokV (nowT ts i)).toArray∧K'=K.new (tkC (nowT ts i)):=by
 have hob:=h.ob
 have hpl:=h.pl
 have hln:=h.len
 have hil:=h.il
 unfold rpC at hob
 rw[h.n] at hob
 refine wpF_rG (by rfl) (by kernel_rfl) ?_;(conv in (rF _ _).body=>reduce);(conv in (rF _ _).res=>reduce)
 by_cases hi:i<ts.length
 ·obtain⟨l,o,os,e,kd,hq,g1,g2,g3,g4,g5⟩:=tk_get h.tk hi
  have hn:nowT ts i=ts[i]:=by unfold nowT;rw[List.getElem?_eq_getElem hi]
  rw[hn]
  rw[hq] at hob
  unfold tokV at g4⊢
  repeat' (first | (simp (disch:=first | omega | (decide +kernel)) only[↓RD,RU,↓putF_get,↓putF_none,↓evF_t,new_get,set_get,getD_zero,pop,lop,aop,wop,resL,resV,tupleV,akV,isVal,isCell,Value.cells,↓reduceIte,Nat.reduceEqDiff,Nat.reduceAdd,Int.reduceOfNat,reduceCtorEq,ρ5,ρ6,ρ7,ρ8,ρ15,ρ17,ρ18,ρ21,ρ22,ρ23,Kd.isRo,ρ25,ρ26,ρ28,ρ29,hob,g1,g3,g4]) | (with_reducible first | refine condK_dec (fun _=> ?_) fun _=> ?_ | refine grd_dec (fun _=> ?_) fun _=> ?_ | refine egrd_dec (fun _=> ?_) fun _=> ?_))
  all_goals exact new_set
 ·by_cases h0:0<ts.length
  ·obtain⟨l,o,os,e,kd,hq,g1,g2,g3,g4,g5⟩:=tk_get h.tk (i:=ts.length-1) (by omega)
   have hn:nowT ts i=⟨0,ts[ts.length-1].line,[]⟩:=by
    unfold nowT
    rw[List.getElem?_eq_none (by omega),List.getLast?_eq_getElem?,List.getElem?_eq_getElem (by omega)]
   rw[hn]
   rw[hq] at hob
   have hsub:((ts.length:Nat):Int)-1=((ts.length-1:Nat):Int):=by omega
   unfold tokV
   repeat' (first | (simp (disch:=first | omega | (decide +kernel)) only[↓RD,RU,↓putF_get,↓putF_none,↓evF_t,↓evF_c,new_get,set_get,getD_zero,pop,lop,aop,wop,resL,resV,tupleV,akV,isVal,isCell,Value.cells,ρ0,ρ1,ρ4,↓reduceIte,Nat.reduceEqDiff,Nat.reduceAdd,Int.reduceOfNat,reduceCtorEq,ρ5,ρ6,ρ7,ρ8,ρ15,ρ17,ρ18,ρ19,ρ20,ρ21,ρ22,ρ23,Kd.isRo,ρ25,ρ26,bldV,Nat.reduceLeDiff,ρ28,ρ29,hob,g1,g5,hsub]) | (with_reducible first | refine condK_dec (fun _=> ?_) fun _=> ?_ | refine grd_dec (fun _=> ?_) fun _=> ?_ | refine egrd_dec (fun _=> ?_) fun _=> ?_))
   all_goals exact new_set
  ·have hts:ts= []:=List.length_eq_zero_iff.1 (by omega)
   have hn:nowT ts i=⟨0,0,[]⟩:=by subst hts;rfl
   rw[hn]
   unfold tokV
   repeat' (first | (simp (disch:=first | omega | (decide +kernel)) only[↓RD,RU,↓putF_get,↓putF_none,↓evF_t,↓evF_c,new_get,set_get,getD_zero,pop,lop,aop,wop,resL,resV,tupleV,akV,isVal,isCell,Value.cells,ρ0,ρ1,ρ4,↓reduceIte,Nat.reduceEqDiff,Nat.reduceAdd,Int.reduceOfNat,reduceCtorEq,ρ5,ρ6,ρ7,ρ8,ρ15,ρ17,ρ18,ρ19,ρ20,ρ21,ρ22,ρ23,Kd.isRo,ρ25,ρ26,bldV,Nat.reduceLeDiff,ρ28,hob]) | (with_reducible first | refine condK_dec (fun _=> ?_) fun _=> ?_ | refine grd_dec (fun _=> ?_) fun _=> ?_ | refine egrd_dec (fun _=> ?_) fun _=> ?_))
   all_goals exact new_set
theorem pnow_iff{K:CH}{p:Nat}{sl:Sl}{ts:List PT}{i:Nat}(h:RpP K p sl ts i){Q:Value→CH→Prop}:WpF (tblG Tryz.prog LG GG) 24 [.pointer (some ⟨p,0,none⟩)] K Q↔Q (.agg (tokV (nowT ts i)).toArray) (K.new (tkC (nowT ts i))):=wpF_iff (pnow_wp h)
theorem pisWord_wp(K:CH){c:UInt8}{s:List UInt8}:WpF (tblG Tryz.prog LG GG) 122 [.string ⟨⟨c::s⟩⟩] K fun v K'=>v= .bool (isWd (c::s))∧K'=K:=by
 have hg:((c::s)[0]?).map (fun b=>Value.int .u8 (b.toNat:Int))=some (.int .u8 (c.toNat:Int)):=rfl
 have hc:=c.toNat_lt
 have e:isWd (c::s)=decide ((65≤c.toNat∧c.toNat≤90)∨(97≤c.toNat∧c.toNat≤122)):=rfl
 rw[e]
 obtain⟨n,hn⟩ : ∃n,c.toNat=n:=⟨_,rfl⟩
 rw[hn] at hg hc⊢
 refine wpF_rG (by rfl) (by kernel_rfl) ?_;(conv in (rF _ _).body=>reduce);(conv in (rF _ _).res=>reduce)
 by_cases h1:65≤n
 ·by_cases h2:n≤90
  ·rw[decide_eq_true (by omega)]
   repeat' (first | (simp (disch:=first | omega | (decide +kernel)) only[↓RD,RU,↓putF_get,↓evF_t,↓evF_c,getD_zero,pop,resL,resV,tupleV,ρ4,↓reduceIte,Nat.reduceEqDiff,Int.reduceOfNat,reduceCtorEq,ρ5,Int.reduceToNat,pstr_get]) | (with_reducible first | refine condK_dec (fun _=> ?_) fun _=> ?_ | refine grd_dec (fun _=> ?_) fun _=> ?_ | refine egrd_dec (fun _=> ?_) fun _=> ?_))
  ·by_cases h3:97≤n
   ·by_cases h4:n≤122
    ·rw[decide_eq_true (by omega)]
     repeat' (first | (simp (disch:=first | omega | (decide +kernel)) only[↓RD,RU,↓putF_get,↓evF_t,↓evF_c,getD_zero,pop,resL,resV,tupleV,ρ4,↓reduceIte,Nat.reduceEqDiff,Int.reduceOfNat,reduceCtorEq,ρ5,Int.reduceToNat,pstr_get]) | (with_reducible first | refine condK_dec (fun _=> ?_) fun _=> ?_ | refine grd_dec (fun _=> ?_) fun _=> ?_ | refine egrd_dec (fun _=> ?_) fun _=> ?_))
    ·rw[decide_eq_false (by omega)]
     repeat' (first | (simp (disch:=first | omega | (decide +kernel)) only[↓RD,RU,↓putF_get,↓evF_t,↓evF_c,getD_zero,pop,resL,resV,tupleV,ρ4,↓reduceIte,Nat.reduceEqDiff,Int.reduceOfNat,reduceCtorEq,ρ5,Int.reduceToNat,pstr_get]) | (with_reducible first | refine condK_dec (fun _=> ?_) fun _=> ?_ | refine grd_dec (fun _=> ?_) fun _=> ?_ | refine egrd_dec (fun _=> ?_) fun _=> ?_))
   ·rw[decide_eq_false (by omega)]
    repeat' (first | (simp (disch:=first | omega | (decide +kernel)) only[↓RD,RU,↓putF_get,↓evF_t,↓evF_c,getD_zero,pop,resL,resV,tupleV,ρ4,↓reduceIte,Nat.reduceEqDiff,Int.reduceOfNat,reduceCtorEq,ρ5,Int.reduceToNat,pstr_get]) | (with_reducible first | refine condK_dec (fun _=> ?_) fun _=> ?_ | refine grd_dec (fun _=> ?_) fun _=> ?_ | refine egrd_dec (fun _=> ?_) fun _=> ?_))
 ·rw[decide_eq_false (by omega)]
  have h3 : ¬ 97≤n:=by omega
  repeat' (first | (simp (disch:=first | omega | (decide +kernel)) only[↓RD,RU,↓putF_get,↓evF_t,↓evF_c,getD_zero,pop,resL,resV,tupleV,ρ4,↓reduceIte,Nat.reduceEqDiff,Int.reduceOfNat,reduceCtorEq,ρ5,Int.reduceToNat,pstr_get]) | (with_reducible first | refine condK_dec (fun _=> ?_) fun _=> ?_ | refine grd_dec (fun _=> ?_) fun _=> ?_ | refine egrd_dec (fun _=> ?_) fun _=> ?_))
theorem pisWord_iff{K:CH}{c:UInt8}{s:List UInt8}{Q:Value→CH→Prop}:WpF (tblG Tryz.prog LG GG) 122 [.string ⟨⟨c::s⟩⟩] K Q↔Q (.bool (isWd (c::s))) K:=wpF_iff (pisWord_wp K)
theorem pis_wp{K:CH}{p:Nat}{sl:Sl}{ts:List PT}{i:Nat}(h:RpP K p sl ts i){c1:UInt8}{s:List UInt8}:WpF (tblG Tryz.prog LG GG) 85 [.pointer (some ⟨p,0,none⟩), .string ⟨⟨c1::s⟩⟩] K fun v K'=>v= .bool (isT ts i (c1::s))∧K'=(K.new (tkC (nowT ts i))).new (tkC (nowT ts i)):=by
 have hob:=h.ob
 have hpl:=h.pl
 have hnow:=fun Q=> @pnow_iff K p sl ts i h Q
 obtain⟨t,ht⟩ : ∃t,nowT ts i=t:=⟨_,rfl⟩
 unfold rpC at hob
 rw[ht] at hnow
 unfold isT
 rw[ht]
 obtain⟨kd,ln,tx⟩:=t
 obtain⟨G,hG⟩ : ∃G,K.new (tkC ⟨kd,ln,tx⟩)=G:=⟨_,rfl⟩
 rw[hG] at hnow⊢
 unfold tokV at hnow
 have fin:G.new (.cells [.int .i64 kd, .int .i64 ln, .string ⟨⟨tx⟩⟩] 50 .ex)=G.new (tkC ⟨kd,ln,tx⟩):=rfl
 refine wpF_rG (by rfl) (by kernel_rfl) ?_;(conv in (rF _ _).body=>reduce);(conv in (rF _ _).res=>reduce)
 by_cases k8:kd=8
 ·subst k8
  by_cases e:tx=c1::s
  ·have hd:=decide_eq_true e
   have hw:=fun K Q=> @pisWord_iff K c1 s Q
   cases hW:isWd (c1::s) with
   | true=>
     rw[hW] at hw
     rw[decide_eq_true ⟨.inl rfl,e,rfl⟩]
     repeat' (first | (simp (disch:=first | omega | (decide +kernel)) only[↓RD,RU,accW_t,accW_f,isW,↓putF_get,↓putF_none,↓evF_t,↓evF_c,new_get,getD_zero,getD_succ,pop,lop,aop,wop,resL,resV,tupleV,akV,isVal,isCell,Value.cells,ρ0,ρ1,ρ3,↓reduceIte,Nat.reduceEqDiff,Nat.reduceAdd,Int.reduceOfNat,reduceCtorEq,ρ5,ρ6,ρ7,ρ8,ρ17,ρ20,ρ21,ρ22,ρ23,Kd.isRo,ρ25,ρ26,ρ28,hnow,new_set,pstr_eq,hw]) | (with_reducible first | refine condK_dec (fun _=> ?_) fun _=> ?_ | refine grd_dec (fun _=> ?_) fun _=> ?_ | refine egrd_dec (fun _=> ?_) fun _=> ?_))
     all_goals exact fin
   | false=>
     rw[hW] at hw
     rw[decide_eq_false (by simp)]
     repeat' (first | (simp (disch:=first | omega | (decide +kernel)) only[↓RD,RU,accW_t,accW_f,isW,↓putF_get,↓putF_none,↓evF_t,↓evF_c,new_get,getD_zero,getD_succ,pop,lop,aop,wop,resL,resV,tupleV,akV,isVal,isCell,Value.cells,ρ0,ρ1,↓reduceIte,Nat.reduceEqDiff,Nat.reduceAdd,Int.reduceOfNat,reduceCtorEq,ρ5,ρ6,ρ7,ρ8,ρ17,ρ20,ρ21,ρ22,ρ23,Kd.isRo,ρ25,ρ26,ρ28,hnow,new_set,pstr_eq,hw]) | (with_reducible first | refine condK_dec (fun _=> ?_) fun _=> ?_ | refine grd_dec (fun _=> ?_) fun _=> ?_ | refine egrd_dec (fun _=> ?_) fun _=> ?_))
     all_goals exact fin
  ·have hd:=decide_eq_false e
   rw[decide_eq_false (fun g=>e g.2.1)]
   repeat' (first | (simp (disch:=first | omega | (decide +kernel)) only[↓RD,RU,accW_t,accW_f,isW,↓putF_get,↓putF_none,↓evF_t,↓evF_c,new_get,getD_zero,getD_succ,pop,lop,aop,wop,resL,resV,tupleV,akV,isVal,isCell,Value.cells,ρ0,ρ1,↓reduceIte,Nat.reduceEqDiff,Nat.reduceAdd,Int.reduceOfNat,reduceCtorEq,ρ5,ρ6,ρ7,ρ8,ρ17,ρ20,ρ21,ρ22,ρ23,Kd.isRo,ρ25,ρ26,ρ28,hnow,new_set,pstr_eq]) | (with_reducible first | refine condK_dec (fun _=> ?_) fun _=> ?_ | refine grd_dec (fun _=> ?_) fun _=> ?_ | refine egrd_dec (fun _=> ?_) fun _=> ?_))
   all_goals exact fin
 ·by_cases k9:kd=9
  ·subst k9
   by_cases e:tx=c1::s
   ·have hd:=decide_eq_true e
    have hw:=fun K Q=> @pisWord_iff K c1 s Q
    cases hW:isWd (c1::s) with
    | true=>
      rw[hW] at hw
      rw[decide_eq_false (by simp)]
      repeat' (first | (simp (disch:=first | omega | (decide +kernel)) only[↓RD,RU,accW_t,accW_f,isW,↓putF_get,↓putF_none,↓evF_t,↓evF_c,new_get,getD_zero,getD_succ,pop,lop,aop,wop,resL,resV,tupleV,akV,isVal,isCell,Value.cells,ρ0,ρ1,ρ2,↓reduceIte,Nat.reduceEqDiff,Nat.reduceAdd,Int.reduceOfNat,reduceCtorEq,ρ5,ρ6,ρ7,ρ8,ρ17,ρ20,ρ21,ρ22,ρ23,Kd.isRo,ρ25,ρ26,ρ28,hnow,new_set,pstr_eq,hw]) | (with_reducible first | refine condK_dec (fun _=> ?_) fun _=> ?_ | refine grd_dec (fun _=> ?_) fun _=> ?_ | refine egrd_dec (fun _=> ?_) fun _=> ?_))
      all_goals exact fin
    | false=>
      rw[hW] at hw
      rw[decide_eq_true ⟨.inr rfl,e,by simp⟩]
      repeat' (first | (simp (disch:=first | omega | (decide +kernel)) only[↓RD,RU,accW_t,accW_f,isW,↓putF_get,↓putF_none,↓evF_t,↓evF_c,new_get,getD_zero,getD_succ,pop,lop,aop,wop,resL,resV,tupleV,akV,isVal,isCell,Value.cells,ρ0,ρ1,ρ3,↓reduceIte,Nat.reduceEqDiff,Nat.reduceAdd,Int.reduceOfNat,reduceCtorEq,ρ5,ρ6,ρ7,ρ8,ρ17,ρ20,ρ21,ρ22,ρ23,Kd.isRo,ρ25,ρ26,ρ28,hnow,new_set,pstr_eq,hw]) | (with_reducible first | refine condK_dec (fun _=> ?_) fun _=> ?_ | refine grd_dec (fun _=> ?_) fun _=> ?_ | refine egrd_dec (fun _=> ?_) fun _=> ?_))
      all_goals exact fin
   ·have hd:=decide_eq_false e
    rw[decide_eq_false (fun g=>e g.2.1)]
    repeat' (first | (simp (disch:=first | omega | (decide +kernel)) only[↓RD,RU,accW_t,accW_f,isW,↓putF_get,↓putF_none,↓evF_t,↓evF_c,new_get,getD_zero,getD_succ,pop,lop,aop,wop,resL,resV,tupleV,akV,isVal,isCell,Value.cells,ρ0,ρ1,↓reduceIte,Nat.reduceEqDiff,Nat.reduceAdd,Int.reduceOfNat,reduceCtorEq,ρ5,ρ6,ρ7,ρ8,ρ17,ρ20,ρ21,ρ22,ρ23,Kd.isRo,ρ25,ρ26,ρ28,hnow,new_set,pstr_eq]) | (with_reducible first | refine condK_dec (fun _=> ?_) fun _=> ?_ | refine grd_dec (fun _=> ?_) fun _=> ?_ | refine egrd_dec (fun _=> ?_) fun _=> ?_))
    all_goals exact fin
  ·rw[decide_eq_false (fun g=>g.1.elim k8 k9)]
   repeat' (first | (simp (disch:=first | omega | (decide +kernel)) only[↓RD,RU,accW_t,accW_f,isW,↓putF_get,↓putF_none,↓evF_t,↓evF_c,new_get,getD_zero,pop,lop,aop,wop,resL,resV,tupleV,akV,isVal,isCell,Value.cells,ρ0,ρ1,↓reduceIte,Nat.reduceEqDiff,Nat.reduceAdd,Int.reduceOfNat,reduceCtorEq,ρ5,ρ6,ρ7,ρ8,ρ17,ρ20,ρ21,ρ22,ρ23,Kd.isRo,ρ25,ρ26,ρ28,hnow,new_set,k8,k9]) | (with_reducible first | refine condK_dec (fun _=> ?_) fun _=> ?_ | refine grd_dec (fun _=> ?_) fun _=> ?_ | refine egrd_dec (fun _=> ?_) fun _=> ?_))
   all_goals exact fin
theorem pkind_wp{K:CH}{p:Nat}{sl:Sl}{ts:List PT}{i:Nat}(h:RpP K p sl ts i){k:Int}:WpF (tblG Tryz.prog LG GG) 88 [.pointer (some ⟨p,0,none⟩), .int .i64 k] K fun v K'=>v= .bool (decide ((nowT ts i).kind=k))∧K'=K.new (tkC (nowT ts i)):=by
 have hob:=h.ob
 have hpl:=h.pl
 have hnow:=fun Q=> @pnow_iff K p sl ts i h Q
 obtain⟨t,ht⟩ : ∃t,nowT ts i=t:=⟨_,rfl⟩
 unfold rpC at hob
 rw[ht] at hnow⊢
 obtain⟨kd,ln,tx⟩:=t
 unfold tokV at hnow
 refine wpF_rG (by rfl) (by kernel_rfl) ?_;(conv in (rF _ _).body=>reduce);(conv in (rF _ _).res=>reduce)
 by_cases hk:kd=k
 ·rw[decide_eq_true hk]
  subst hk
  repeat' (first | (simp (disch:=first | omega | (decide +kernel)) only[↓RD,RU,↓putF_get,↓evF_t,↓evF_c,getD_zero,getD_succ,pop,resL,resV,tupleV,ρ0,ρ1,↓reduceIte,Nat.reduceEqDiff,reduceCtorEq,ρ5,partV,hnow]) | (with_reducible first | refine condK_dec (fun _=> ?_) fun _=> ?_ | refine grd_dec (fun _=> ?_) fun _=> ?_ | refine egrd_dec (fun _=> ?_) fun _=> ?_))
  all_goals rfl
 ·rw[decide_eq_false hk]
  repeat' (first | (simp (disch:=first | omega | (decide +kernel)) only[↓RD,RU,↓putF_get,↓evF_t,↓evF_c,getD_zero,getD_succ,pop,resL,resV,tupleV,ρ0,ρ1,↓reduceIte,Nat.reduceEqDiff,reduceCtorEq,ρ5,partV,hnow,hk]) | (with_reducible first | refine condK_dec (fun _=> ?_) fun _=> ?_ | refine grd_dec (fun _=> ?_) fun _=> ?_ | refine egrd_dec (fun _=> ?_) fun _=> ?_))
  all_goals rfl
theorem pnode_wp{K:CH}{k l:Int}{a:Option Addr}{n c:Nat}:WpF (tblG Tryz.prog LG GG) 23 [.int .i64 k, .int .i64 l, .slice a n c] K fun v K'=>v= .agg #[.int .i64 k, .int .i64 l, .string ⟨⟨[]⟩⟩, .int .i64 0, .slice a n c]∧∃o,K'=K.new o:=by
 refine wpF_rG (by rfl) (by kernel_rfl) ?_;(conv in (rF _ _).body=>reduce);(conv in (rF _ _).res=>reduce)
 repeat' (first | (simp (disch:=first | omega | (decide +kernel)) only[↓RD,RU,↓putF_get,↓putF_none,↓evF_t,new_get,getD_zero,getD_succ,pop,lop,aop,wop,resL,resV,tupleV,akV,isVal,isCell,Value.cells,ρ0,ρ1,ρ4,↓reduceIte,Nat.reduceEqDiff,Nat.reduceAdd,Int.reduceOfNat,reduceCtorEq,ρ7,ρ8,ρ15,ρ17,ρ18,ρ19,ρ20,ρ21,ρ22,ρ23,Kd.isRo,ρ25,ρ26,bldV,Nat.reduceLeDiff,new_set]) | (with_reducible first | refine condK_dec (fun _=> ?_) fun _=> ?_ | refine grd_dec (fun _=> ?_) fun _=> ?_ | refine egrd_dec (fun _=> ?_) fun _=> ?_))
 all_goals exact⟨_,rfl⟩
end Can
end Go.Proofs.YtnankhlanilbbaaGreat
end
section
namespace Go.Proofs.YtnankhlanilbbaaGreat
namespace Can
open Go Go.RowKit
set_option linter.unusedSimpArgs false
set_option linter.unusedVariables false
set_option maxRecDepth 4000
mutual
def ndS:Nd→List SV
 | .mk k l x o ks=> [.sc (.int .i64 (k:Nat)), .sc (.int .i64 l), .sc (.string ⟨⟨x⟩⟩), .sc (.int .i64 (o:Nat)), .row 5 (ndsS ks)]
def ndsS:List Nd→List (List SV)
 | []=> []
 | n::ks=>ndS n::ndsS ks
end
theorem ndsS_app : ∀ {a b:List Nd},ndsS (a++b)=ndsS a++ndsS b
 | [],b=>rfl
 | n::a,b=>by simp only[List.cons_append,ndsS,ndsS_app]
theorem ndsS_len : ∀ {a:List Nd},(ndsS a).length=a.length
 | []=>rfl
 | n::a=>by simp only[ndsS,List.length_cons,ndsS_len]
theorem ndsS_get : ∀ {a:List Nd} {i:Nat} {t:Nd},a[i]? = some t→(ndsS a)[i]? = some (ndS t)
 | [],i,t,h=>by simp at h
 | n::a,0,t,h=>by simp at h;subst h;rfl
 | n::a,i+1,t,h=>by simpa[ndsS] using ndsS_get (a:=a) (i:=i) (by simpa using h)
def ndA (t:Nd):AV:= .r (.agg ((ndS t).map .s))
def tokA (t:PT):AV:= .r (.agg [cS (.int .i64 t.kind),cS (.int .i64 t.line),cS (.string ⟨⟨t.text⟩⟩)])
structure TkZ(Z:TP)(sl:Sl)(ts:List PT):Prop where
 n:sl.n=ts.length
 q : ∀l o,sl.q=some ⟨l,o,none⟩→Z.N l
 tk : ∀K:CH,(∀b,Z.N b→b<K.nx∧K.ob b=Z.M b)→SlAt 3 CTk K sl.q sl.c ts
theorem tokA_rel{K:CH}{E:TE}{t:PT}:AVR K E (tokA t) (.agg (tokV t).toArray):= .r (.agg (vs:=tokV t) (.cons (.s (.sc rfl)) (.cons (.s (.sc rfl)) (.cons (.s (.sc rfl)) .nil))))
theorem rS_rel{K:CH}{E:TE}{v:Value}(h:isCell v=true):AVR K E (rS v) v:= .r (.c (.s (.sc h)))
theorem r2_rS{K:CH}{E:TE} : ∀ {L:List Value} {vs:List Value},R2 (AVR K E) (L.map rS) vs→vs=L
 | [],_, .nil=>rfl
 | v::L,_, .cons h t=>by rw[r2_rS t,raw_rel h rfl]
theorem tc_self{Z:TP}{T:Tbl}{X:Pan}{f:FuncId}{args:List AV}{e:TypeId}{s s':List SV}{Q:AV→List SV→Prop}{R:Value→Prop}(h:s=s')(g:TC Z T X f args (some (e,s')) Q R):TC Z T X f args (some (e,s)) Q R:=by rw[h];exact g
theorem wr_inc{i n:Nat}(h:i<n)(hn:n≤4398046510976):(IntKind.wrap .i64 ((i:Int)+1))=((i+1:Nat):Int):=by
 rw[w_i64 (by omega) (by omega)];omega
def rdS (sl:Sl)(i:Nat):List SV:= [.sc (.slice sl.q sl.n sl.c), .sc (.int .i64 (i:Nat))]
abbrev rdR(sl:Sl)(i:Nat):Self:=some (55,rdS sl i)
theorem self_inv{K:CH}{E:TE}{sp:Option Nat}{sl:Sl}{i:Nat}(h:SelfR K E sp (rdR sl i)) : ∃p,sp=some p∧p<K.nx∧K.ob p=rpC sl i:=by
 obtain⟨p,os,h1,h2,h3,h4⟩:=h
 refine⟨p,h1,h2,?_⟩
 rw[h3]
 cases h4 with
 | cons a h4=>cases h4 with
   | cons b h4=>cases h4;cases a;cases b;rfl
theorem self_mk{K:CH}{E:TE}{p:Nat}{sl:Sl}{i:Nat}(h:p<K.nx)(ho:K.ob p=rpC sl i):SelfR K E (some p) (rdR sl i):=⟨p,_,rfl,h,ho, .cons (.sc rfl) (.cons (.sc rfl) .nil)⟩
theorem tc_rd{Z:TP}{X:Pan}{sl:Sl}{ts:List PT}(hZ:TkZ Z sl ts){f:FuncId}{L:List Value}{i j:Nat}{a:AV}{V:Value}{Q:AV→List SV→Prop}{R:Value→Prop}(hi:i≤ts.length)(hV : ∀K E,AVR K E a V)(hc:a.clean)
 (h : ∀K p,RpP K p sl ts i→WpF (tblG Tryz.prog LG GG) f (.pointer (some ⟨p,0,none⟩)::L) K fun v K'=>v=V∧K.nx≤K'.nx∧(∀b,b<K.nx→b≠p→K'.ob b=K.ob b)∧K'.ob p=rpC sl j) (hQ:Q a (rdS sl j)):TC Z (tblG Tryz.prog LG GG) X f (.ptr 0 0::L.map rS) (rdR sl i) Q R:=by
 intro K sp hid vs h1 h2 h3 h4
 obtain⟨p,rfl,hp,ho⟩:=self_inv h4
 have hvs:vs= .pointer (some ⟨p,0,none⟩)::L:=by
  cases h3 with
  | cons g1 g2=>
    obtain⟨l,q1,q2⟩:=g1.ptr_inv
    have q1:some p=some l:=q1
    cases q1
    rw[q2,r2_rS g2]
 subst hvs
 left
 refine(h K p ⟨ho,hp,hi,hZ.n,hZ.tk K fun b hb=>⟨(h2 b hb).1,(h2 b hb).2.2⟩⟩).mono fun v K' ⟨e1,e2,e3,e4⟩=> ?_
 subst e1
 exact⟨e2,fun b hb hs=>e3 b hb fun e=>hs (by rw[e]),a,rdS sl j,hV _ _,hc,self_mk (Nat.lt_of_lt_of_le hp e2) e4,hQ⟩
structure PCtx(Z:TP)(X:Pan)(W:Int→Value)(ts:List PT)(sl:Sl):Prop where
 tkz:TkZ Z sl ts
 fail : ∀(i:Nat) (Q:AV→List SV→Prop) (R:Value→Prop),i≤ts.length→R (W (nowT ts i).line)→TC Z (tblG Tryz.prog LG GG) X 87 [.ptr 0 0] (rdR sl i) Q R
 len:ts.length≤4398046510976
def DT:TD:=⟨[23]⟩
theorem dt_ok:TDOk (tblG Tryz.prog LG GG) DT:=⟨fun f hf K k l a n c=>by
 have:f=23:=by
  simp only[DT,List.elem_cons,List.elem_nil] at hf
  split at hf
  ·rename_i h;exact eq_of_beq h
  ·cases hf
 subst this
 exact pnode_wp⟩
section
variable {Z:TP} {X:Pan} {W:Int→Value} {ts:List PT} {sl:Sl} {R:Value→Prop} {Q:AV→List SV→Prop} {E:Nat→Prop} {P:List Nd→Nat→Prop} {i:Nat}
theorem now_tc(C:PCtx Z X W ts sl)(hi:i≤ts.length)(hQ:Q (tokA (nowT ts i)) (rdS sl i)):TC Z (tblG Tryz.prog LG GG) X 24 [.ptr 0 0] (rdR sl i) Q R:=
 tc_rd C.tkz (L:= []) hi (fun _ _=>tokA_rel) trivial (fun K p h=>(pnow_wp h).mono fun v K' ⟨e1,e2⟩=>by
  subst e2
  exact⟨e1,Nat.le_succ _,fun b hb _=>new_ne (by omega),(new_ne (by have:=h.pl;omega)).trans h.ob⟩) hQ
theorem is_tc(C:PCtx Z X W ts sl){s:List UInt8}(hs:s≠ [])(hi:i≤ts.length)(hQ:Q (rS (.bool (isT ts i s))) (rdS sl i)):TC Z (tblG Tryz.prog LG GG) X 85 [.ptr 0 0,rS (.string ⟨⟨s⟩⟩)] (rdR sl i) Q R:=by
 obtain⟨c1,s,rfl⟩ : ∃c1 s',s=c1::s':=by cases s;exact absurd rfl hs;exact⟨_,_,rfl⟩
 exact tc_rd C.tkz (L:= [.string ⟨⟨c1::s⟩⟩]) hi (fun _ _=>rS_rel rfl) trivial (fun K p h=>(pis_wp h).mono fun v K' ⟨e1,e2⟩=>by
  subst e2
  have:=h.pl
  refine⟨e1,by simp only[new_nx];omega,fun b hb _=> ?_,?_⟩
  ·rw[new_ne (by simp only[new_nx];omega),new_ne (by omega)]
  ·rw[new_ne (by simp only[new_nx];omega),new_ne (by omega)];exact h.ob) hQ
theorem kind_tc(C:PCtx Z X W ts sl){k:Int}(hi:i≤ts.length)(hQ:Q (rS (.bool (decide ((nowT ts i).kind=k)))) (rdS sl i)):TC Z (tblG Tryz.prog LG GG) X 88 [.ptr 0 0,rS (.int .i64 k)] (rdR sl i) Q R:=
 tc_rd C.tkz (L:= [.int .i64 k]) hi (fun _ _=>rS_rel rfl) trivial (fun K p h=>(pkind_wp h).mono fun v K' ⟨e1,e2⟩=>by
  subst e2
  exact⟨e1,Nat.le_succ _,fun b hb _=>new_ne (by omega),(new_ne (by have:=h.pl;omega)).trans h.ob⟩) hQ
end
end Can
end Go.Proofs.YtnankhlanilbbaaGreat
end
section
namespace Go.Proofs.YtnankhlanilbbaaGreat
namespace Can
open Go Go.RowKit
set_option linter.unusedSimpArgs false
set_option linter.unusedVariables false
set_option maxRecDepth 4000
def wrV (l:Int):Value:= .iface 57 (.agg #[.int .i64 l])
noncomputable def regOps:Option Code→Array Oper
 | some (.region _ ops _)=>ops
 | _=> #[]
noncomputable def failOps:Array Oper:=regOps (Tryz.f87).body
def pX:Pan:=fun f args H v H'=>f=87∧∃p sl ts i,args= [.pointer (some ⟨p,0,none⟩)]∧RpP H p sl ts i∧v=wrV (nowT ts i).line∧H'=H.new (tkC (nowT ts i))
noncomputable def failIts:List Item:=(resItems Tryz.prog 7 failOps (failOps.toList.take 4)).getD []
theorem failIts_ok:resItems Tryz.prog 7 failOps (failOps.toList.take 4)=some failIts:=by
 unfold failIts
 have h:(resItems Tryz.prog 7 failOps (failOps.toList.take 4)).isSome=true:=by kernel_rfl
 cases hr:resItems Tryz.prog 7 failOps (failOps.toList.take 4) with
 | none=>rw[hr] at h;cases h
 | some l=>rfl
theorem fail_run{H:CH}{p:Nat}{sl:Sl}{ts:List PT}{i:Nat}(h:RpP H p sl ts i):WpI (tblG Tryz.prog LG GG) failIts (fun t=> [Value.pointer (some ⟨p,0,none⟩)].getD t undef) H fun fr1 H1=>fr1 5= .agg #[.int .i64 (nowT ts i).line]∧H1=H.new (tkC (nowT ts i)):=by
 have hnow:=fun Q=> @pnow_iff H p sl ts i h Q
 unfold tokV at hnow
 conv in failIts=>reduce
 repeat' (first | (simp (disch:=first | omega | (decide +kernel)) only[↓RD,RU,↓putF_get,↓evF_t,getD_zero,pop,isVal,Value.cells,ρ0,ρ1,ρ4,↓reduceIte,Int.reduceOfNat,ρ5,ρ6,ρ7,ρ8,ρ17,ρ21,ρ25,ρ26,bldV,partV,hnow]) | (with_reducible first | refine condK_dec (fun _=> ?_) fun _=> ?_ | refine grd_dec (fun _=> ?_) fun _=> ?_ | refine egrd_dec (fun _=> ?_) fun _=> ?_))
 all_goals exact⟨rfl,rfl⟩
theorem fail_ok{B:Nat}{f:FuncId}{args:List Value}{H:CH}{v:Value}{H':CH}(h:pX f args H v H'):PanC Tryz.prog B f args H v H':=by
 obtain⟨rfl,p,sl,ts,i,rfl,hR,rfl,rfl⟩:=h
 refine⟨by kernel_rfl,fun β w args' hS hv=> ?_⟩
 obtain⟨n,fr1,H1,hrun,h5,rfl⟩:=fail_run hR
 obtain⟨hl,hits⟩:=resItems_ok failIts_ok
 have hbody:(Tryz.f87).body=some (.region 0 failOps false):=by rfl
 refine callsIn_of_wp_marks Tryz.func87 hbody trivial ?_ rfl
 have hnt:(Tryz.f87).ntmps=7:=by rfl
 have hf:=frArgs (N:=7) hv
 rw[hnt]
 refine wpIn_region ?_
 show wpOpsIn (Fn none) 0 Tryz.prog failOps _ ([0,1,2,3]++ [4,5]) _ w
 refine wpOpsIn_app [4,5] [0,1,2,3] _ w ?_
 refine items_sound (fn_sound tg_ok n) [0,1,2,3] failIts β _ fr1 H _ _ w (by rw[hl];rfl) (fun k h1 h2=> ?_) hS hf hrun fun β' w' a' q1 q2 q3 q4=> ?_
 ·have hk:k<(failOps.toList.take 4).length:=by rw[←hl];exact h1
  refine⟨(failOps.toList.take 4)[k],?_,hits k h1 hk⟩
  have hk4:k<4:=by simpa using h2
  obtain rfl | rfl | rfl | rfl:k=0∨k=1∨k=2∨k=3:=by omega
  all_goals rfl
 ·have h5':a'.tmps.getD 5 undef= .agg #[.int .i64 (nowT ts i).line]:=by
   have:=q3.2 5
   rw[h5] at this
   exact closedW_eq rfl this
  have hlen:=q3.1
  show wpOpsIn (Fn none) 0 Tryz.prog failOps _ [4,5] a' w'
  have ho4:failOps[4]? = some (failOps[4]'(by decide)):=rfl
  have ho5:failOps[5]? = some (failOps[5]'(by decide)):=rfl
  simp only[wpOpsIn,ho4,ho5]
  rw[if_pos (by rfl)]
  refine⟨fun f _=>trivial,?_⟩
  have hr4:((failOps[4]'(by decide)).semAt (Fn none).round a'.eval).run Tryz.prog w'= .ok (.value (wrV (nowT ts i).line)) w':=by
   rw[show(Fn none).round=none from rfl,Oper.semAt_none]
   simp[execOp,failOps,regOps,Tryz.f87,Instr.makeInterface,Act.eval,h5']
   rfl
  rw[hr4,Oper.uponIn_value]
  have hd4:(failOps[4]'(by decide)).dst=some 6:=rfl
  rw[hd4]
  have h6:(a'.put (some 6) (wrV (nowT ts i).line)).tmps.getD 6 undef=wrV (nowT ts i).line:=by
   show(a'.tmps.setIfInBounds 6 _).getD 6 undef=_
   rw[Array.getD_eq_getD_getElem?,Array.getElem?_setIfInBounds_self_of_lt (by omega)]
   rfl
  have hdef:(a'.put (some 6) (wrV (nowT ts i).line)).defers= []:=q4
  generalize a'.put (some 6) (wrV (nowT ts i).line)=a2 at h6 hdef⊢
  rw[if_pos (by rfl)]
  refine⟨fun f _=>trivial,?_⟩
  have hr5:((failOps[5]'(by decide)).semAt (Fn none).round a2.eval).run Tryz.prog w'= .halt (.panic (wrV (nowT ts i).line)) w':=by
   rw[show(Fn none).round=none from rfl,Oper.semAt_none]
   simp[execOp,failOps,regOps,Tryz.f87,Instr.panic,Act.eval,h6,wrV]
  rw[hr5,Oper.uponIn_panic]
  show LeavesInM _ _ _ _ _ _ a2.defers _ w'
  rw[hdef]
  exact⟨_,β',rfl, .iface _ (.agg rfl fun i h1 h2=>by
   have:i=0:=by simpa using h1
   subst this;exact .int _ _),q1,q2⟩
theorem pctx{Z:TP}{sl:Sl}{ts:List PT}(hZ:TkZ Z sl ts)(hl:ts.length≤4398046510976):PCtx Z pX wrV ts sl:=⟨hZ,fun i Q R hi hR K sp hid vs h1 h2 h3 h4=>by
 obtain⟨p,rfl,hp,ho⟩:=self_inv h4
 have hvs:vs= [.pointer (some ⟨p,0,none⟩)]:=by
  cases h3 with
  | cons g1 g2=>
    cases g2
    obtain⟨l,q1,q2⟩:=g1.ptr_inv
    have q1:some p=some l:=q1
    cases q1
    rw[q2]
 subst hvs
 exact .inr ⟨0,_,_,⟨rfl,p,sl,ts,i,rfl,⟨ho,hp,hi,hZ.n,hZ.tk K fun b hb=>⟨(h2 b hb).1,(h2 b hb).2.2⟩⟩,rfl,rfl⟩,Nat.le_succ _,fun b hb _=>new_ne (by omega),hR⟩,hl⟩
end Can
end Go.Proofs.YtnankhlanilbbaaGreat
end
section
namespace Go.Proofs.YtnankhlanilbbaaGreat
namespace Can
open Go Go.RowKit
set_option linter.unusedSimpArgs false
set_option linter.unusedVariables false
set_option maxRecDepth 4000
theorem gd_ret:GdRet Tryz.prog 22 3:=by
 intro args w ha
 match args,ha with
 | [v1,v2,v3],_=>
   refine callsDIn_of_wpSIn Tryz.func22 rfl trivial fun c0 cs hu=> ?_
   have hnt:(Tryz.f22).ntmps=20:=by rfl
   rw[hnt]
   apply wpSIn_seq
   apply wpSIn_region
   simp[wpOpsSIn,go_sem,recoverD,hu,Exit.thenS]
   refine wpSIn_of_wpIn rfl (wpIn_seq (wpIn_region ?_))
   simp[wpOpsIn,go_sem]
   refine wpIn_cond_false (by simp[Act.eval]) (wpIn_skip ?_)
   simp[bodyPostS,results,Tryz.f22]
   cases c0
   simp_all
def lastOps:Code→Array Oper
 | .seq _ b=>lastOps b
 | .cond _ a _=>lastOps a
 | .region _ ops _=>ops
 | _=> #[]
noncomputable def gdOps:Array Oper:=lastOps ((Tryz.f22).body.getD .skip)
noncomputable def gdD:DReg:=(resD Tryz.prog 20 gdOps).getD ⟨[],[],none⟩
theorem gdD_ok:DOk Tryz.prog 20 gdOps gdD∧PDOk Tryz.prog 20 gdOps gdD:=by
 refine resD_ok ?_
 unfold gdD
 have h:(resD Tryz.prog 20 gdOps).isSome=true:=by kernel_rfl
 cases hr:resD Tryz.prog 20 gdOps with
 | none=>rw[hr] at h;cases h
 | some l=>rfl
def gdH (H:CH)(l:Int):CH:=(H.new (.cells [.int .i64 0] 57 .ex)).set H.nx (.cells [.int .i64 l] 57 .ex)
def gdG (args:List Value)(v:Value)(H H':CH):Prop:=args.length=3∧∃l,v=wrV l∧WpR (tblG Tryz.prog LG GG) (.drw gdD) (fun t=>if t=4 then .pointer (some ⟨H.nx,0,none⟩) else args.getD t undef) (gdH H l) fun x _ K=>x= .normal∧K=H'
noncomputable def gdTl:Code:=match (Tryz.f22).body with
 | some (.seq _ (.seq _ (.cond _ x _)))=>x
 | _=> .skip
noncomputable def gd0:Array Oper:=match (Tryz.f22).body with
 | some (.seq (.region _ ops _) _)=>ops
 | _=> #[]
noncomputable def gd1:Array Oper:=match (Tryz.f22).body with
 | some (.seq _ (.seq (.region _ ops _) _))=>ops
 | _=> #[]
noncomputable def gd2:Array Oper:=match gdTl with
 | .seq (.region _ ops _) _=>ops
 | _=> #[]
noncomputable def gd3:Array Oper:=match gdTl with
 | .seq _ (.seq (.seq (.region _ ops _) _) _)=>ops
 | _=> #[]
noncomputable def gd4:Code:=match gdTl with
 | .seq _ (.seq (.seq _ (.cond _ x _)) _)=>x
 | _=> .skip
theorem gd_ops{K3:Act→World→Prop}{Q3:Exit→Act→World→Prop}{a:Act}{w:World}{l:Int}(h3:a.tmps.getD 3 undef=wrV l)(hs:20≤a.tmps.size)
 (hK : ∀a',a'.defers=a.defers→20≤a'.tmps.size→(∀t,t<3→a'.tmps.getD t undef=a.tmps.getD t undef)→a'.tmps.getD 12 undef= .agg #[.int .i64 l]→a'.tmps.getD 13 undef= .bool true→K3 a' w):wpOpsIn Fence.wide 0 Tryz.prog gd2 (thenQ K3 Q3) [0,1,2,3,4] a w:=by
 have hta : ∀(xt:TypeId) (v:Value) (w:World),(Instr.typeAssert (.iface 57 v) xt 57 true).run Tryz.prog w= .ok (.tuple #[v, .bool true]) w:=fun xt v w=>by kernel_rfl
 have s9:9<a.tmps.size:=by omega
 have s10:10<a.tmps.size:=by omega
 have s11:11<a.tmps.size:=by omega
 have s12:12<a.tmps.size:=by omega
 have s13:13<a.tmps.size:=by omega
 unfold wrV at h3
 simp only[Array.getD_eq_getD_getElem?] at h3 hK
 have e:gd2=_:=rfl
 conv at e=>rhs;whnf
 rw[e]
 simp[wpOpsIn,go_sem,thenQ,hta,h3,s9,s10,s11,s12,s13]
 refine hK _ rfl (by simpa using hs) (fun t ht=> ?_) ?_ ?_
 ·have g9:9≠t:=by omega
  have g10:10≠t:=by omega
  have g11:11≠t:=by omega
  have g12:12≠t:=by omega
  have g13:13≠t:=by omega
  simp[Array.getElem?_setIfInBounds,g9,g10,g11,g12,g13]
 ·simp[Array.getElem?_setIfInBounds,s12]
 ·simp[Array.getElem?_setIfInBounds,s13]
noncomputable def gdIts:List Item:=(resItems Tryz.prog 20 gd2 (gd2.toList.drop 5)).getD []
theorem gdIts_ok:resItems Tryz.prog 20 gd2 (gd2.toList.drop 5)=some gdIts:=by
 unfold gdIts
 have h:(resItems Tryz.prog 20 gd2 (gd2.toList.drop 5)).isSome=true:=by kernel_rfl
 cases hr:resItems Tryz.prog 20 gd2 (gd2.toList.drop 5) with
 | none=>rw[hr] at h;cases h
 | some l=>rfl
theorem gd_run{H:CH}{l:Int}{fr:Fr}(h12:fr 12= .agg #[.int .i64 l])(h13:fr 13= .bool true):WpI (tblG Tryz.prog LG GG) gdIts fr H fun fr1 H1=>fr1 0=fr 0∧fr1 1=fr 1∧fr1 2=fr 2∧fr1 4= .pointer (some ⟨H.nx,0,none⟩)∧fr1 5= .bool true∧H1=gdH H l:=by
 unfold gdH
 conv in gdIts=>reduce
 repeat' (first | (simp (disch:=first | omega | (decide +kernel)) only[↓RD,RU,↓putF_get,↓putF_none,↓evF_t,new_get,pop,aop,wop,akV,isVal,isCell,Value.cells,↓reduceIte,Nat.reduceEqDiff,Int.reduceOfNat,reduceCtorEq,ρ7,ρ8,ρ17,ρ21,ρ22,ρ23,Kd.isRo,ρ25,ρ26,h12,h13]) | (with_reducible first | refine condK_dec (fun _=> ?_) fun _=> ?_ | refine grd_dec (fun _=> ?_) fun _=> ?_ | refine egrd_dec (fun _=> ?_) fun _=> ?_))
theorem gd_tl{B:Nat}{β:Nat→Ent}{w:World}{u1 u2 u3 v1 v2 v3:Value}{l:Int}{H H':CH}{a:Act}{Q:Exit→Act→World→Prop}(hS:Sim Tryz.prog B β H w)(hargs:VRs β [u1,u2,u3] [v1,v2,v3])(hG:gdG [u1,u2,u3] (wrV l) H H')(h3:a.tmps.getD 3 undef=wrV l)(hs:20≤a.tmps.size)
 (ha : ∀i,i<3→a.tmps.getD i undef= [v1,v2,v3].getD i undef)
 (hK : ∀β' w' a',Sim Tryz.prog B β' H' w'→Evo β w β' w'→a'.defers=a.defers→Q .normal a' w'):gdTl.wpIn Fence.wide 0 Tryz.prog Q a w:=by
 obtain⟨_,l',hl,n,x,fr2,K',hev,rfl,rfl⟩:=hG
 have hl:l'=l:=by
  unfold wrV at hl
  injection hl with _ hl
  injection hl with hl
  simpa using hl.symm
 subst hl
 show(Code.seq (.region 2 gd2 false) (.seq (.seq (.region 3 gd3 false) (.cond (.tmp 15) gd4 .skip)) (.region 5 gdOps true))).wpIn Fence.wide 0 Tryz.prog Q a w
 refine wpIn_seq_k fun K hK2=>wpIn_region ?_
 show wpOpsIn Fence.wide 0 Tryz.prog gd2 _ ([0,1,2,3,4]++ [5,6,7]) a w
 refine wpOpsIn_app [5,6,7] [0,1,2,3,4] a w (gd_ops h3 hs fun a1 hd1 hs1 h01 h12 h13=> ?_)
 have hf1:FR β 20 (fun t=>if t<3 then [u1,u2,u3].getD t undef else if t=12 then .agg #[.int .i64 l'] else if t=13 then .bool true else undef) a1:=by
  refine⟨hs1,fun t=> ?_⟩
  show VR β (if t<3 then [u1,u2,u3].getD t undef else if t=12 then .agg #[.int .i64 l'] else if t=13 then .bool true else undef) _
  split
  ·rename_i ht
   rw[h01 t ht,ha t ht]
   obtain⟨z,z1,z2⟩:=hargs.2 t ([u1,u2,u3].getD t undef) (by
    obtain rfl | rfl | rfl:t=0∨t=1∨t=2:=by omega
    all_goals rfl)
   have e : [v1,v2,v3].getD t undef=z:=by rw[List.getD_eq_getElem?_getD,z1];rfl
   rw[e]
   exact z2
  ·split
   ·rename_i e;subst e;rw[h12];exact closedW_rel rfl β
   ·split
    ·rename_i e;subst e;rw[h13];exact .bool _
    ·exact .undef _
 obtain⟨m,fr1,H1,hrun,g0,g1,g2,g4,g5,rfl⟩:=gd_run (H:=H) (l:=l') (fr:=fun t=>if t<3 then [u1,u2,u3].getD t undef else if t=12 then .agg #[.int .i64 l'] else if t=13 then .bool true else undef) rfl rfl
 obtain⟨hl,hits⟩:=resItems_ok gdIts_ok
 refine items_sound (ro:=none) (fn_sound tg_ok m) [5,6,7] gdIts β _ fr1 H _ a1 w (by rw[hl];rfl) (fun k h1 h2=> ?_) hS hf1 hrun fun β2 w2 a2 q1 q2 q3 q4=> ?_
 ·have hk:k<(gd2.toList.drop 5).length:=by rw[←hl];exact h1
  refine⟨(gd2.toList.drop 5)[k],?_,hits k h1 hk⟩
  have hk3:k<3:=by simpa using h2
  obtain rfl | rfl | rfl:k=0∨k=1∨k=2:=by omega
  all_goals rfl
 ·refine hK2 _ _ ?_
  have h5:a2.tmps.getD 5 undef= .bool true:=by
   have:=q3.2 5
   rw[g5] at this
   exact this.bool_inv
  have hs2:=q3.1
  refine wpIn_seq (wpIn_seq (wpIn_region ?_))
  have e3:gd3=_:=rfl
  conv at e3=>rhs;whnf
  rw[e3]
  have s14:14<a2.tmps.size:=by omega
  have s15:15<a2.tmps.size:=by omega
  simp only[Array.getD_eq_getD_getElem?] at h5
  simp[wpOpsIn,go_sem,h5,s14,s15]
  refine wpIn_cond_false (by simp[Act.eval,Array.getElem?_setIfInBounds,s15]) (wpIn_skip ?_)
  have hev':evD (evH (tblG Tryz.prog LG GG) n) gdD (fun t=>if t=4 then .pointer (some ⟨H.nx,0,none⟩) else [u1,u2,u3].getD t undef) (gdH H l')=some (fr2,K'):=by
   simp only[evR] at hev
   cases hr:evD (evH (tblG Tryz.prog LG GG) n) gdD (fun t=>if t=4 then .pointer (some ⟨H.nx,0,none⟩) else [u1,u2,u3].getD t undef) (gdH H l') with
   | none=>rw[hr] at hev;simp at hev
   | some q=>rw[hr] at hev;simp at hev;rw[←hev.1,←hev.2]
  refine gdD_ok.1 B _ none β2 _ fr2 _ K' _ w2 5 Q (fn_sound tg_ok n) q1 ?_ hev' fun β3 w3 a3 p1 p2 p3 p4=>hK β3 w3 a3 p1 (q2.trans p2) (p4.trans (q4.trans hd1))
  refine⟨by simpa using hs2,fun t=> ?_⟩
  by_cases h15:t=15
  ·subst h15;exact .undef _
  by_cases h14:t=14
  ·subst h14;exact .undef _
  have e : ∀z y:Value,((a2.tmps.setIfInBounds 14 z).setIfInBounds 15 y).getD t undef=a2.tmps.getD t undef:=fun z y=>by
   have g14:14≠t:=fun e=>h14 e.symm
   have g15:15≠t:=fun e=>h15 e.symm
   simp[Array.getD_eq_getD_getElem?,Array.getElem?_setIfInBounds,g14,g15]
  show VR β2 (if t=4 then .pointer (some ⟨H.nx,0,none⟩) else [u1,u2,u3].getD t undef) (Array.getD _ t undef)
  rw[e]
  split
  ·rename_i h4
   subst h4
   rw[←g4]
   exact q3.2 4
  ·match t with
   | 0=>have:=q3.2 0;rw[g0] at this;exact this
   | 1=>have:=q3.2 1;rw[g1] at this;exact this
   | 2=>have:=q3.2 2;rw[g2] at this;exact this
   | n+3=>exact .undef _
theorem gd_pan{B:Nat}:GdPan Tryz.prog B 22 gdG:=by
 intro β w args args' v v' H H' hS hargs hv hG
 obtain⟨hlen,l,hvl,_⟩:=id hG
 subst hvl
 have hv':v'=wrV l:=by
  unfold wrV at hv⊢
  cases hv with
  | iface t hx=>rw[closedW_eq rfl hx]
 subst hv'
 match args,hlen,args',hargs with
 | [u1,u2,u3],_,[v1,v2,v3],hargs=>
   refine callsDIn_of_wpSIn (c:= .seq (.region 0 gd0 false) (.seq (.region 1 gd1 false) (.cond (.tmp 8) gdTl .skip))) Tryz.func22 rfl trivial fun c0 cs hu=> ?_
   have hnt:(Tryz.f22).ntmps=20:=by rfl
   rw[hnt]
   have e0:gd0=_:=rfl
   conv at e0=>rhs;whnf
   have e1:gd1=_:=rfl
   conv at e1=>rhs;whnf
   rw[e0,e1]
   apply wpSIn_seq
   apply wpSIn_region
   simp[wpOpsSIn,go_sem,recoverD,hu,Exit.thenS]
   refine wpSIn_of_wpIn rfl (wpIn_seq (wpIn_region ?_))
   simp[wpOpsIn,go_sem,wrV]
   refine wpIn_cond_true (by simp[Act.eval]) (gd_tl (l:=l) hS hargs hG (by simp[wrV]) (by simp) (fun i hi=> ?_) fun β' w' a' q1 q2 q3=> ?_)
   ·obtain rfl | rfl | rfl:i=0∨i=1∨i=2:=by omega
    all_goals simp
   ·simp[bodyPostS,results,Tryz.f22]
    exact⟨q3,β',q1,q2⟩
end Can
end Go.Proofs.YtnankhlanilbbaaGreat
end
