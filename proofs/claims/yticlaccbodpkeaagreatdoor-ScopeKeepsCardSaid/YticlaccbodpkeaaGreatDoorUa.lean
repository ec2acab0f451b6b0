/- Lex: what is computed, in plain words: bytes, tokens, rows. No program in sight. -/
import Derived.WalkKit
open List renaming drop_eq_getElem_cons → mz, replicate → j8
set_option linter.unusedSimpArgs false
set_option linter.unusedVariables false
namespace Go.Proofs.YticlaccbodpkeaaGreatDoor
theorem Om {p : Prop} (h : p := by omega) : p := h
theorem de {p : Prop} (h : p := by decide) : p := h
theorem Sm {p : Prop} (h : p := by simp) : p := h
theorem Mt {p : Prop} (h : p := by simp only [SR.me]; omega) : p := h
theorem Rl {p : Prop} (h : p := by rfl) : p := h
theorem Kr {p : Prop} (h : p := by kernel_rfl) : p := h
theorem So {p : Prop} (h : p := by simp [Op.operands]) : p := h
theorem Sq {p : Prop} (h : p := by simp; omega) : p := h
theorem Tv {p : Prop} (h : p := by trivial) : p := h
theorem SS {p : Prop} (h : p := by simp only [List.length_append, List.length_cons, List.length_nil]; omega) : p := h
theorem He {p : Prop} (h : p := by intro e he; first | exact hE e he | exact ⟨True.intro, hE e he⟩) : p := h
theorem S0 {p : Prop} (h : p := by simp [Op.operands, Call.operands]) : p := h
theorem MM {p : Prop} (h : p := by simp only [SR.me, Nd.kids] at hm ⊢; omega) : p := h
theorem Fo {p : Prop} (h : p := by first | omega | (simp only[jK,kf];omega)) : p := h
theorem iN {c : Prop} {h : Decidable c} (a : ¬c) {α : Sort _} {t e : α} : ite c t e = e := if_neg a
theorem iP {c : Prop} {h : Decidable c} (hc : c) {α : Sort _} {t e : α} : ite c t e = t := if_pos hc
theorem iT {α : Sort _} {x : Decidable True} (t e : α) : ite True t e = t := if_true t e
theorem iF {α : Sort _} {x : Decidable False} (t e : α) : ite False t e = e := if_false t e
theorem aK {p q : Prop} (k : q) (e : q -> p := by
  intro k
  conv in (rF _ _).body => reduce
  conv in (rF _ _).res => reduce
  exact k) : p := e k
theorem gS {A B C : Prop} (a : A) (b : B) (c : C) : A /\ B /\ C := ⟨a, b, c⟩
theorem jz {A B C D : Prop} (a : A) (b : B) (c : C) (d : D) : A /\ B /\ C /\ D := ⟨a, b, c, d⟩
theorem jL {A B C D E : Prop} (a : A) (b : B) (c : C) (d : D) (e : E) : A /\ B /\ C /\ D /\ E := ⟨a, b, c, d, e⟩
theorem o8 {A B C D E F : Prop} (a : A) (b : B) (c : C) (d : D) (e : E) (f : F) : A /\ B /\ C /\ D /\ E /\ F := ⟨a, b, c, d, e, f⟩
theorem uF {A B C D E F G : Prop} (a : A) (b : B) (c : C) (d : D) (e : E) (f : F) (g : G) : A /\ B /\ C /\ D /\ E /\ F /\ G := ⟨a, b, c, d, e, f, g⟩
theorem qz {A B C D E F G H : Prop} (a : A) (b : B) (c : C) (d : D) (e : E) (f : F) (g : G) (h : H) : A /\ B /\ C /\ D /\ E /\ F /\ G /\ H := ⟨a, b, c, d, e, f, g, h⟩
theorem Ad {A B C D E F G H I : Prop} (a : A) (b : B) (c : C) (d : D) (e : E) (f : F) (g : G) (h : H) (i : I) : A /\ B /\ C /\ D /\ E /\ F /\ G /\ H /\ I := ⟨a, b, c, d, e, f, g, h, i⟩
theorem Ce {A B C D E F G H I J : Prop} (a : A) (b : B) (c : C) (d : D) (e : E) (f : F) (g : G) (h : H) (i : I) (j : J) : A /\ B /\ C /\ D /\ E /\ F /\ G /\ H /\ I /\ J := ⟨a, b, c, d, e, f, g, h, i, j⟩
theorem D1 {A B C D E F G H I J K : Prop} (a : A) (b : B) (c : C) (d : D) (e : E) (f : F) (g : G) (h : H) (i : I) (j : J) (k : K) : A /\ B /\ C /\ D /\ E /\ F /\ G /\ H /\ I /\ J /\ K := ⟨a, b, c, d, e, f, g, h, i, j, k⟩
theorem Ob {A B C D E F G H I J K L : Prop} (a : A) (b : B) (c : C) (d : D) (e : E) (f : F) (g : G) (h : H) (i : I) (j : J) (k : K) (l : L) : A /\ B /\ C /\ D /\ E /\ F /\ G /\ H /\ I /\ J /\ K /\ L := ⟨a, b, c, d, e, f, g, h, i, j, k, l⟩
theorem Jr {A B C D E F G H I J K L M : Prop} (a : A) (b : B) (c : C) (d : D) (e : E) (f : F) (g : G) (h : H) (i : I) (j : J) (k : K) (l : L) (m : M) : A /\ B /\ C /\ D /\ E /\ F /\ G /\ H /\ I /\ J /\ K /\ L /\ M := ⟨a, b, c, d, e, f, g, h, i, j, k, l, m⟩
theorem Y7 {A B C D E F G H I J K L M N : Prop} (a : A) (b : B) (c : C) (d : D) (e : E) (f : F) (g : G) (h : H) (i : I) (j : J) (k : K) (l : L) (m : M) (n : N) : A /\ B /\ C /\ D /\ E /\ F /\ G /\ H /\ I /\ J /\ K /\ L /\ M /\ N := ⟨a, b, c, d, e, f, g, h, i, j, k, l, m, n⟩
theorem agm {A B C D E F G H I J K L M N O : Prop} (a : A) (b : B) (c : C) (d : D) (e : E) (f : F) (g : G) (h : H) (i : I) (j : J) (k : K) (l : L) (m : M) (n : N) (o : O) : A /\ B /\ C /\ D /\ E /\ F /\ G /\ H /\ I /\ J /\ K /\ L /\ M /\ N /\ O := ⟨a, b, c, d, e, f, g, h, i, j, k, l, m, n, o⟩
theorem Gx {A B C D E F G H I J K L M N O P : Prop} (a : A) (b : B) (c : C) (d : D) (e : E) (f : F) (g : G) (h : H) (i : I) (j : J) (k : K) (l : L) (m : M) (n : N) (o : O) (p : P) : A /\ B /\ C /\ D /\ E /\ F /\ G /\ H /\ I /\ J /\ K /\ L /\ M /\ N /\ O /\ P := ⟨a, b, c, d, e, f, g, h, i, j, k, l, m, n, o, p⟩
theorem Y8 {A B C D E F G H I J K L M N O P Q : Prop} (a : A) (b : B) (c : C) (d : D) (e : E) (f : F) (g : G) (h : H) (i : I) (j : J) (k : K) (l : L) (m : M) (n : N) (o : O) (p : P) (q : Q) : A /\ B /\ C /\ D /\ E /\ F /\ G /\ H /\ I /\ J /\ K /\ L /\ M /\ N /\ O /\ P /\ Q := ⟨a, b, c, d, e, f, g, h, i, j, k, l, m, n, o, p, q⟩
theorem agn {A B C D E F G H I J K L M N O P Q R : Prop} (a : A) (b : B) (c : C) (d : D) (e : E) (f : F) (g : G) (h : H) (i : I) (j : J) (k : K) (l : L) (m : M) (n : N) (o : O) (p : P) (q : Q) (r : R) : A /\ B /\ C /\ D /\ E /\ F /\ G /\ H /\ I /\ J /\ K /\ L /\ M /\ N /\ O /\ P /\ Q /\ R := ⟨a, b, c, d, e, f, g, h, i, j, k, l, m, n, o, p, q, r⟩
theorem Y9 {A B C D E F G H I J K L M N O P Q R S : Prop} (a : A) (b : B) (c : C) (d : D) (e : E) (f : F) (g : G) (h : H) (i : I) (j : J) (k : K) (l : L) (m : M) (n : N) (o : O) (p : P) (q : Q) (r : R) (s : S) : A /\ B /\ C /\ D /\ E /\ F /\ G /\ H /\ I /\ J /\ K /\ L /\ M /\ N /\ O /\ P /\ Q /\ R /\ S := ⟨a, b, c, d, e, f, g, h, i, j, k, l, m, n, o, p, q, r, s⟩
namespace Can
section
def tD(n:Nat):Bool:=decide (n=95\/(97<=n/\n<=122)\/(65<=n/\n<=90))
def iU(n:Nat):Bool:=decide (48<=n/\n<=57)
def kY(n:Nat):Bool:=tD n||iU n
def hd:List UInt8->Nat
 | c::_=>c.toNat
 | []=>0
def nW (p:Nat->Bool):List UInt8->Nat
 | c::r=>if p c.toNat then nW p r+1 else 0
 | []=>0
theorem Gy{p:Nat->Bool} : ∀ {l:List UInt8},nW p l<=l.length
 | []=>Nat.le_refl _
 | c::r=>by
   simp only[nW];split;·have:=Gy (p:=p) (l:=r);simp;omega
   simp
theorem Oc{l:List UInt8}{j:Nat}(h:j<l.length):hd (l.drop j)=l[j].toNat:=by
 rw[mz h];rfl
theorem D2{p:Nat->Bool}{l:List UInt8}{j:Nat}(h:j<l.length)(hp:p (hd (l.drop j))=true):nW p (l.drop j)=nW p (l.drop (j+1))+1:=by
 rw[Oc h] at hp;rw[mz h,nW,iP hp]
theorem Gz{p:Nat->Bool}{l:List UInt8}(h:l= []\/p (hd l)=false):nW p l=0:=by
 rcases h with rfl | h
 ·rfl
 cases l with
 | nil=>rfl
 | cons c r=>simp only[hd] at h;simp[nW,h]
theorem uG{l:List UInt8}(h:hd l≠0):0<l.length:=by
 cases l with
 | nil=>exact absurd rfl h
 | cons c r=>simp
theorem SG{l:List UInt8}:hd l<256:=by
 cases l with
 | nil=>decide
 | cons c r=>exact c.toNat_lt
def lQ (l:List UInt8):Nat:=nW iU l
def uH(l:List UInt8):Nat:=if hd l=46/\iU (hd (l.drop 1))=true then 1+lQ (l.drop 1) else 0
def yx (l:List UInt8):Nat:=if hd l=101 then (if iU (hd (l.drop 1))=true then 1+lQ (l.drop 1) else if (hd (l.drop 1)=43\/hd (l.drop 1)=45)/\iU (hd (l.drop 2))=true then 2+lQ (l.drop 2) else 0) else 0
def vW (l:List UInt8):Nat:=lQ l+uH (l.drop (lQ l))
def sE (l:List UInt8):Nat:=vW l+yx (l.drop (vW l))
def Cf (l:List UInt8):Nat:=if uH (l.drop (lQ l))=0/\yx (l.drop (vW l))=0 then 5 else 6
def GA(l:List UInt8):Bool:=tD (hd (l.drop (sE l)))||decide (hd (l.drop (sE l))=46)||decide (540<sE l)||(decide (Cf l=5)&&decide (1<sE l)&&decide (hd l=48))
def rj (n:Nat):Nat:=if 48<=n/\n<=57 then n-48 else if 97<=n/\n<=102 then n-87 else if 65<=n/\n<=70 then n-55 else 16
def Ae (n:Nat):Nat:=if n=110 then 10 else if n=116 then 9 else if n=92\/n=39\/n=34 then n else 0
def rm (l:List UInt8):Option (Nat×Nat):=
 if hd l=120 then (if rj (hd (l.drop 1))<16/\rj (hd (l.drop 2))<16 then some (16*rj (hd (l.drop 1))+rj (hd (l.drop 2)),3) else none)
 else if Ae (hd l)≠0 then some (Ae (hd l),1) else none
def mE (q:Nat):Nat->List UInt8->Option (List UInt8×Nat)
 | 0,_=>none
 | f+1,l=>if hd l=q then some ([],1) else if hd l<32 then none else if hd l≠92 then (mE q f (l.drop 1)).map λx=>(UInt8.ofNat (hd l)::x.1,x.2+1)
   else match rm (l.drop 1) with
    | some (b,n)=>(mE q f (l.drop (1+n))).map λx=>(UInt8.ofNat b::x.1,x.2+(1+n))
    | none=>none
def uI (q:Nat)(l:List UInt8):Option (List UInt8×Nat):=mE q (l.length+1) l
def S3:List (List UInt8):= [[42,42,61],[47,47,61]]
def S2:List (List UInt8):= [[42,42],[47,47],[61,61],[33,61],[60,61],[62,61],[43,61],[45,61],[42,61],[47,61],[37,61]]
def S1:List UInt8:= [43,45,42,47,37,61,60,62,40,41,91,93,123,125,44,58,46]
def uJ (l:List UInt8):Option Nat:=if l.take 3∈S3 then some 3 else if l.take 2∈S2 then some 2 else if hd l∈S1.map UInt8.toNat then some 1 else none
def Cg:List (List UInt8):= [[97,110,100],[97,115],[97,115,115,101,114,116],[98,114,101,97,107],[99,108,97,115,115],[99,111,110,116,105,110,117,101],[100,101,102],[100,101,108],[101,108,105,102],[101,108,115,101],[101,120,99,101,112,116],[102,105,110,97,108,108,121],[102,111,114],[103,108,111,98,97,108],[105,102],[105,110],[105,115],[108,97,109,98,100,97],[110,111,110,108,111,99,97,108],[110,111,116],[111,114],[112,97,115,115],[114,97,105,115,101],[114,101,116,117,114,110],[116,114,121],[119,104,105,108,101],[119,105,116,104],[121,105,101,108,100],[84,114,117,101],[70,97,108,115,101],[78,111,110,101]]
def mF (l:List UInt8):Option (Nat×List UInt8×Nat):=
 if tD (hd l)=true then some (if l.take (nW kY l)∈Cg then 8 else 4,l.take (nW kY l),nW kY l)
 else if iU (hd l)=true then (if GA l=true then none else some (Cf l,l.take (sE l),sE l))
 else if hd l=39\/hd l=34 then (uI (hd l) (l.drop 1)).map λx=>(7,x.1,x.2+1)
 else (uJ l).map λn=>(9,l.take n,n)
def D3 (d k:Nat)(x:List UInt8):Nat:=if k=9/\x∈ [[40],[91],[123]] then d+1 else if k=9/\x∈ [[41],[93],[125]]/\0<d then d-1 else d
def du (l:List UInt8):Nat:=if hd (l.drop (nW (λn=>decide (n=32)) l))=35 then nW (λn=>decide (n=32)) l+nW (λn=>decide (n≠10)) (l.drop (nW (λn=>decide (n=32)) l)) else nW (λn=>decide (n=32)) l
structure Tok where
 kind:Nat
 line:Nat
 text:List UInt8
def nj (line:Nat):Nat->List UInt8->Nat->Option (List Tok×Nat)
 | 0,_,_=>none
 | f+1,t,d=>if t.length<=du t then some ([],d) else match mF (t.drop (du t)) with
   | none=>none
   | some (k,x,n)=>(nj line f (t.drop (du t+n)) (D3 d k x)).map λy=>(⟨k,line,x⟩::y.1,y.2)
def kD (line:Nat)(st:List Nat)(n:Nat):List Tok×List Nat:=if st.headD 0<n then ([⟨2,line,[]⟩],n::st) else (j8 (st.takeWhile λx=>decide (n<x)).length ⟨3,line,[]⟩,st.dropWhile λx=>decide (n<x))
def lR (line:Nat)(t:List UInt8)(d:Nat)(st:List Nat):Except Nat (List Tok×Nat×List Nat):=
 if t.length<=du t then .ok ([],d,st)
 else if d=0/\(kD line st (du t)).2.headD 0≠du t then .error 21
 else match nj line (t.length+1) t d with
  | none=> .error 20
  | some (ts,a)=> .ok ((if d=0 then (kD line st (du t)).1 else [])++ts++(if a=0 then [⟨1,line,[]⟩] else []),a,if d=0 then (kD line st (du t)).2 else st)
def kE:Nat->List (List UInt8)->Nat->List Nat->Except (Nat×Nat) (List Tok×List Nat)
 | _,[],_,st=> .ok ([],st)
 | line,t::ts,d,st=>match lR line t d st with
   | .error e=> .error (line,e)
   | .ok (x,a,bB)=>match kE (line+1) ts a bB with
     | .error e=> .error e
     | .ok (y,z)=> .ok (x++y,z)
def iI:List UInt8->List (List UInt8)
 | []=> [[]]
 | c::r=>if c.toNat=10 then []::iI r else match iI r with
   | t::ts=>(c::t)::ts
   | []=> [[c]]
def D4 (rows:Nat)(st:List Nat):List Tok:=j8 (st.length-1) ⟨3,rows,[]⟩++ [⟨0,rows,[]⟩]
def lC (src:List UInt8):Except (Nat×Nat) (List Tok):=
 if 20000<src.length then .error (0,24) else match kE 1 (iI src) 0 [0] with
  | .error e=> .error e
  | .ok (x,st)=> .ok (x++D4 (iI src).length st)
end
end Can
end Go.Proofs.YticlaccbodpkeaaGreatDoor
