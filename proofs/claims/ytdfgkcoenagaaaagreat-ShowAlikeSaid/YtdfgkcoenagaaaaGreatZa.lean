/- Lex: what is computed, in plain words: bytes, tokens, rows. No program in sight. -/
import Derived.WalkKit
namespace Go.Proofs.YtdfgkcoenagaaaaGreat
namespace Can
set_option linter.unusedSimpArgs false
set_option linter.unusedVariables false
def isLetN(n:Nat):Bool:=decide (n=95∨(97≤n∧n≤122)∨(65≤n∧n≤90))
def isDigN(n:Nat):Bool:=decide (48≤n∧n≤57)
def isAlN(n:Nat):Bool:=isLetN n||isDigN n
def hd:List UInt8→Nat
 | c::_=>c.toNat
 | []=>0
def nW (p:Nat→Bool):List UInt8→Nat
 | c::r=>if p c.toNat then nW p r+1 else 0
 | []=>0
theorem nW_le{p:Nat→Bool} : ∀ {l:List UInt8},nW p l≤l.length
 | []=>Nat.le_refl _
 | c::r=>by
   simp only[nW]
   split
   ·have:=nW_le (p:=p) (l:=r);simp;omega
   ·simp
theorem hd_drop{l:List UInt8}{j:Nat}(h:j<l.length):hd (l.drop j)=l[j].toNat:=by
 rw[List.drop_eq_getElem_cons h];rfl
theorem nW_yes{p:Nat→Bool}{l:List UInt8}{j:Nat}(h:j<l.length)(hp:p (hd (l.drop j))=true):nW p (l.drop j)=nW p (l.drop (j+1))+1:=by
 rw[hd_drop h] at hp
 rw[List.drop_eq_getElem_cons h,nW,if_pos hp]
theorem nW_no{p:Nat→Bool}{l:List UInt8}(h:l= []∨p (hd l)=false):nW p l=0:=by
 rcases h with rfl | h
 ·rfl
 ·cases l with
  | nil=>rfl
  | cons c r=>simp only[hd] at h;simp[nW,h]
theorem hd_pos{l:List UInt8}(h:hd l≠0):0<l.length:=by
 cases l with
 | nil=>exact absurd rfl h
 | cons c r=>simp
theorem hd_lt{l:List UInt8}:hd l<256:=by
 cases l with
 | nil=>decide
 | cons c r=>exact c.toNat_lt
def digN (l:List UInt8):Nat:=nW isDigN l
def fracN(l:List UInt8):Nat:=if hd l=46∧isDigN (hd (l.drop 1))=true then 1+digN (l.drop 1) else 0
def expN (l:List UInt8):Nat:=if hd l=101 then (if isDigN (hd (l.drop 1))=true then 1+digN (l.drop 1) else if (hd (l.drop 1)=43∨hd (l.drop 1)=45)∧isDigN (hd (l.drop 2))=true then 2+digN (l.drop 2) else 0) else 0
def numA (l:List UInt8):Nat:=digN l+fracN (l.drop (digN l))
def numN (l:List UInt8):Nat:=numA l+expN (l.drop (numA l))
def numK (l:List UInt8):Nat:=if fracN (l.drop (digN l))=0∧expN (l.drop (numA l))=0 then 5 else 6
def numBad(l:List UInt8):Bool:=isLetN (hd (l.drop (numN l)))||decide (hd (l.drop (numN l))=46)||decide (540<numN l)||(decide (numK l=5)&&decide (1<numN l)&&decide (hd l=48))
def hexN (n:Nat):Nat:=if 48≤n∧n≤57 then n-48 else if 97≤n∧n≤102 then n-87 else if 65≤n∧n≤70 then n-55 else 16
def stdN (n:Nat):Nat:=if n=110 then 10 else if n=116 then 9 else if n=92∨n=39∨n=34 then n else 0
def escN (l:List UInt8):Option (Nat×Nat):=
 if hd l=120 then (if hexN (hd (l.drop 1))<16∧hexN (hd (l.drop 2))<16 then some (16*hexN (hd (l.drop 1))+hexN (hd (l.drop 2)),3) else none)
 else if stdN (hd l)≠0 then some (stdN (hd l),1) else none
def strN (q:Nat):Nat→List UInt8→Option (List UInt8×Nat)
 | 0,_=>none
 | f+1,l=>if hd l=q then some ([],1) else if hd l<32 then none else if hd l≠92 then (strN q f (l.drop 1)).map fun x=>(UInt8.ofNat (hd l)::x.1,x.2+1)
   else match escN (l.drop 1) with
    | some (b,n)=>(strN q f (l.drop (1+n))).map fun x=>(UInt8.ofNat b::x.1,x.2+(1+n))
    | none=>none
def strT (q:Nat)(l:List UInt8):Option (List UInt8×Nat):=strN q (l.length+1) l
def S3:List (List UInt8):= [[42,42,61],[47,47,61]]
def S2:List (List UInt8):= [[42,42],[47,47],[61,61],[33,61],[60,61],[62,61],[43,61],[45,61],[42,61],[47,61],[37,61]]
def S1:List UInt8:= [43,45,42,47,37,61,60,62,40,41,91,93,123,125,44,58,46]
def symN (l:List UInt8):Option Nat:=if l.take 3∈S3 then some 3 else if l.take 2∈S2 then some 2 else if hd l∈S1.map UInt8.toNat then some 1 else none
def wordsL:List (List UInt8):= [[97,110,100],[97,115],[97,115,115,101,114,116],[98,114,101,97,107],[99,108,97,115,115],[99,111,110,116,105,110,117,101],[100,101,102],[100,101,108],[101,108,105,102],[101,108,115,101],[101,120,99,101,112,116],[102,105,110,97,108,108,121],[102,111,114],[103,108,111,98,97,108],[105,102],[105,110],[105,115],[108,97,109,98,100,97],[110,111,110,108,111,99,97,108],[110,111,116],[111,114],[112,97,115,115],[114,97,105,115,101],[114,101,116,117,114,110],[116,114,121],[119,104,105,108,101],[119,105,116,104],[121,105,101,108,100],[84,114,117,101],[70,97,108,115,101],[78,111,110,101]]
def tokT (l:List UInt8):Option (Nat×List UInt8×Nat):=
 if isLetN (hd l)=true then some (if l.take (nW isAlN l)∈wordsL then 8 else 4,l.take (nW isAlN l),nW isAlN l)
 else if isDigN (hd l)=true then (if numBad l=true then none else some (numK l,l.take (numN l),numN l))
 else if hd l=39∨hd l=34 then (strT (hd l) (l.drop 1)).map fun x=>(7,x.1,x.2+1)
 else (symN l).map fun n=>(9,l.take n,n)
def depT (d k:Nat)(x:List UInt8):Nat:=if k=9∧x∈ [[40],[91],[123]] then d+1 else if k=9∧x∈ [[41],[93],[125]]∧0<d then d-1 else d
def blkN (l:List UInt8):Nat:=if hd (l.drop (nW (fun n=>decide (n=32)) l))=35 then nW (fun n=>decide (n=32)) l+nW (fun n=>decide (n≠10)) (l.drop (nW (fun n=>decide (n=32)) l)) else nW (fun n=>decide (n=32)) l
structure Tok where
 kind:Nat
 line:Nat
 text:List UInt8
def toks (line:Nat):Nat→List UInt8→Nat→Option (List Tok×Nat)
 | 0,_,_=>none
 | f+1,t,d=>if t.length≤blkN t then some ([],d) else match tokT (t.drop (blkN t)) with
   | none=>none
   | some (k,x,n)=>(toks line f (t.drop (blkN t+n)) (depT d k x)).map fun y=>(⟨k,line,x⟩::y.1,y.2)
def indT (line:Nat)(st:List Nat)(n:Nat):List Tok×List Nat:=if st.headD 0<n then ([⟨2,line,[]⟩],n::st) else (List.replicate (st.takeWhile fun x=>decide (n<x)).length ⟨3,line,[]⟩,st.dropWhile fun x=>decide (n<x))
def rowT (line:Nat)(t:List UInt8)(d:Nat)(st:List Nat):Except Nat (List Tok×Nat×List Nat):=
 if t.length≤blkN t then .ok ([],d,st)
 else if d=0∧(indT line st (blkN t)).2.headD 0≠blkN t then .error 21
 else match toks line (t.length+1) t d with
  | none=> .error 20
  | some (ts,d')=> .ok ((if d=0 then (indT line st (blkN t)).1 else [])++ts++(if d'=0 then [⟨1,line,[]⟩] else []),d',if d=0 then (indT line st (blkN t)).2 else st)
def rowsT:Nat→List (List UInt8)→Nat→List Nat→Except (Nat×Nat) (List Tok×List Nat)
 | _,[],_,st=> .ok ([],st)
 | line,t::ts,d,st=>match rowT line t d st with
   | .error e=> .error (line,e)
   | .ok (x,d',st')=>match rowsT (line+1) ts d' st' with
     | .error e=> .error e
     | .ok (y,z)=> .ok (x++y,z)
def splitN:List UInt8→List (List UInt8)
 | []=> [[]]
 | c::r=>if c.toNat=10 then []::splitN r else match splitN r with
   | t::ts=>(c::t)::ts
   | []=> [[c]]
def endT (rows:Nat)(st:List Nat):List Tok:=List.replicate (st.length-1) ⟨3,rows,[]⟩++ [⟨0,rows,[]⟩]
def lexT (src:List UInt8):Except (Nat×Nat) (List Tok):=
 if 20000<src.length then .error (0,24) else match rowsT 1 (splitN src) 0 [0] with
  | .error e=> .error e
  | .ok (x,st)=> .ok (x++endT (splitN src).length st)
end Can
end Go.Proofs.YtdfgkcoenagaaaaGreat
