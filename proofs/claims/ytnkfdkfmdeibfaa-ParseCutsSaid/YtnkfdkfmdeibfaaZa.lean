/- Parse: the grammar as a function of tokens; with so many steps. No program in sight. (Printed by tools/genps.py.). Parse, plain laws: the grammar over two rows of tokens that are alike at some places. No program in sight. -/
import Derived.WalkKit
section
namespace Go.Proofs.Ytnkfdkfmdeibfaa
namespace Can
set_option linter.unusedSimpArgs false
set_option linter.unusedVariables false
structure PT where
  kind : Int
  line : Int
  text : List UInt8
inductive Nd where
  | mk (kind : Nat) (line : Int) (text : List UInt8) (op : Nat) (kids : List Nd)
def Nd.kind : Nd → Nat
  | .mk k _ _ _ _ => k
def Nd.line : Nd → Int
  | .mk _ l _ _ _ => l
def Nd.kids : Nd → List Nd
  | .mk _ _ _ _ ks => ks
abbrev nd (k : Nat) (l : Int) (kids : List Nd) : Nd := .mk k l [] 0 kids
def nowT (ts : List PT) (i : Nat) : PT := match ts[i]? with
  | some t => t
  | none => match ts.getLast? with
    | some t => ⟨0, t.line, []⟩
    | none => ⟨0, 0, []⟩
def isWd : List UInt8 → Bool
  | c :: _ => decide ((65 ≤ c.toNat ∧ c.toNat ≤ 90) ∨ (97 ≤ c.toNat ∧ c.toNat ≤ 122))
  | [] => false
def isT (ts : List PT) (i : Nat) (s : List UInt8) : Bool := decide (((nowT ts i).kind = 8 ∨ (nowT ts i).kind = 9) ∧ (nowT ts i).text = s ∧ isWd s = decide ((nowT ts i).kind = 8))
abbrev s_lambda : List UInt8 := [UInt8.ofNat 108, UInt8.ofNat 97, UInt8.ofNat 109, UInt8.ofNat 98, UInt8.ofNat 100, UInt8.ofNat 97]
abbrev s_colon : List UInt8 := [UInt8.ofNat 58]
abbrev s_if : List UInt8 := [UInt8.ofNat 105, UInt8.ofNat 102]
abbrev s_else : List UInt8 := [UInt8.ofNat 101, UInt8.ofNat 108, UInt8.ofNat 115, UInt8.ofNat 101]
abbrev s_or : List UInt8 := [UInt8.ofNat 111, UInt8.ofNat 114]
abbrev s_and : List UInt8 := [UInt8.ofNat 97, UInt8.ofNat 110, UInt8.ofNat 100]
abbrev s_not : List UInt8 := [UInt8.ofNat 110, UInt8.ofNat 111, UInt8.ofNat 116]
abbrev s_eqeq : List UInt8 := [UInt8.ofNat 61, UInt8.ofNat 61]
abbrev s_bne : List UInt8 := [UInt8.ofNat 33, UInt8.ofNat 61]
abbrev s_lt : List UInt8 := [UInt8.ofNat 60]
abbrev s_le : List UInt8 := [UInt8.ofNat 60, UInt8.ofNat 61]
abbrev s_gt : List UInt8 := [UInt8.ofNat 62]
abbrev s_ge : List UInt8 := [UInt8.ofNat 62, UInt8.ofNat 61]
abbrev s_in : List UInt8 := [UInt8.ofNat 105, UInt8.ofNat 110]
abbrev s_is : List UInt8 := [UInt8.ofNat 105, UInt8.ofNat 115]
abbrev s_plus : List UInt8 := [UInt8.ofNat 43]
abbrev s_minus : List UInt8 := [UInt8.ofNat 45]
abbrev s_star : List UInt8 := [UInt8.ofNat 42]
abbrev s_slash : List UInt8 := [UInt8.ofNat 47]
abbrev s_dslash : List UInt8 := [UInt8.ofNat 47, UInt8.ofNat 47]
abbrev s_pct : List UInt8 := [UInt8.ofNat 37]
abbrev s_dstar : List UInt8 := [UInt8.ofNat 42, UInt8.ofNat 42]
abbrev s_dot : List UInt8 := [UInt8.ofNat 46]
abbrev s_lpar : List UInt8 := [UInt8.ofNat 40]
abbrev s_rpar : List UInt8 := [UInt8.ofNat 41]
abbrev s_lbrk : List UInt8 := [UInt8.ofNat 91]
abbrev s_rbrk : List UInt8 := [UInt8.ofNat 93]
abbrev s_lbrc : List UInt8 := [UInt8.ofNat 123]
abbrev s_rbrc : List UInt8 := [UInt8.ofNat 125]
abbrev s_comma : List UInt8 := [UInt8.ofNat 44]
abbrev s_None : List UInt8 := [UInt8.ofNat 78, UInt8.ofNat 111, UInt8.ofNat 110, UInt8.ofNat 101]
abbrev s_True : List UInt8 := [UInt8.ofNat 84, UInt8.ofNat 114, UInt8.ofNat 117, UInt8.ofNat 101]
abbrev s_False : List UInt8 := [UInt8.ofNat 70, UInt8.ofNat 97, UInt8.ofNat 108, UInt8.ofNat 115, UInt8.ofNat 101]
abbrev s_for : List UInt8 := [UInt8.ofNat 102, UInt8.ofNat 111, UInt8.ofNat 114]
abbrev s_asg : List UInt8 := [UInt8.ofNat 61]
abbrev s_plusA : List UInt8 := [UInt8.ofNat 43, UInt8.ofNat 61]
abbrev s_minusA : List UInt8 := [UInt8.ofNat 45, UInt8.ofNat 61]
abbrev s_starA : List UInt8 := [UInt8.ofNat 42, UInt8.ofNat 61]
abbrev s_slashA : List UInt8 := [UInt8.ofNat 47, UInt8.ofNat 61]
abbrev s_dslashA : List UInt8 := [UInt8.ofNat 47, UInt8.ofNat 47, UInt8.ofNat 61]
abbrev s_pctA : List UInt8 := [UInt8.ofNat 37, UInt8.ofNat 61]
abbrev s_dstarA : List UInt8 := [UInt8.ofNat 42, UInt8.ofNat 42, UInt8.ofNat 61]
abbrev s_pass : List UInt8 := [UInt8.ofNat 112, UInt8.ofNat 97, UInt8.ofNat 115, UInt8.ofNat 115]
abbrev s_break : List UInt8 := [UInt8.ofNat 98, UInt8.ofNat 114, UInt8.ofNat 101, UInt8.ofNat 97, UInt8.ofNat 107]
abbrev s_continue : List UInt8 := [UInt8.ofNat 99, UInt8.ofNat 111, UInt8.ofNat 110, UInt8.ofNat 116, UInt8.ofNat 105, UInt8.ofNat 110, UInt8.ofNat 117, UInt8.ofNat 101]
abbrev s_return : List UInt8 := [UInt8.ofNat 114, UInt8.ofNat 101, UInt8.ofNat 116, UInt8.ofNat 117, UInt8.ofNat 114, UInt8.ofNat 110]
abbrev s_raise : List UInt8 := [UInt8.ofNat 114, UInt8.ofNat 97, UInt8.ofNat 105, UInt8.ofNat 115, UInt8.ofNat 101]
abbrev s_global : List UInt8 := [UInt8.ofNat 103, UInt8.ofNat 108, UInt8.ofNat 111, UInt8.ofNat 98, UInt8.ofNat 97, UInt8.ofNat 108]
abbrev s_nonlocal : List UInt8 := [UInt8.ofNat 110, UInt8.ofNat 111, UInt8.ofNat 110, UInt8.ofNat 108, UInt8.ofNat 111, UInt8.ofNat 99, UInt8.ofNat 97, UInt8.ofNat 108]
abbrev s_assert : List UInt8 := [UInt8.ofNat 97, UInt8.ofNat 115, UInt8.ofNat 115, UInt8.ofNat 101, UInt8.ofNat 114, UInt8.ofNat 116]
abbrev s_yield : List UInt8 := [UInt8.ofNat 121, UInt8.ofNat 105, UInt8.ofNat 101, UInt8.ofNat 108, UInt8.ofNat 100]
abbrev s_del : List UInt8 := [UInt8.ofNat 100, UInt8.ofNat 101, UInt8.ofNat 108]
abbrev s_elif : List UInt8 := [UInt8.ofNat 101, UInt8.ofNat 108, UInt8.ofNat 105, UInt8.ofNat 102]
abbrev s_except : List UInt8 := [UInt8.ofNat 101, UInt8.ofNat 120, UInt8.ofNat 99, UInt8.ofNat 101, UInt8.ofNat 112, UInt8.ofNat 116]
abbrev s_as : List UInt8 := [UInt8.ofNat 97, UInt8.ofNat 115]
abbrev s_finally : List UInt8 := [UInt8.ofNat 102, UInt8.ofNat 105, UInt8.ofNat 110, UInt8.ofNat 97, UInt8.ofNat 108, UInt8.ofNat 108, UInt8.ofNat 121]
abbrev s_while : List UInt8 := [UInt8.ofNat 119, UInt8.ofNat 104, UInt8.ofNat 105, UInt8.ofNat 108, UInt8.ofNat 101]
abbrev s_def : List UInt8 := [UInt8.ofNat 100, UInt8.ofNat 101, UInt8.ofNat 102]
abbrev s_class : List UInt8 := [UInt8.ofNat 99, UInt8.ofNat 108, UInt8.ofNat 97, UInt8.ofNat 115, UInt8.ofNat 115]
abbrev s_try : List UInt8 := [UInt8.ofNat 116, UInt8.ofNat 114, UInt8.ofNat 121]
abbrev s_with : List UInt8 := [UInt8.ofNat 119, UInt8.ofNat 105, UInt8.ofNat 116, UInt8.ofNat 104]
def begT (ts : List PT) (i : Nat) : Bool := decide (4 ≤ (nowT ts i).kind ∧ (nowT ts i).kind ≤ 7) || isT ts i s_lambda || isT ts i s_not || isT ts i s_None || isT ts i s_True || isT ts i s_False || isT ts i s_plus || isT ts i s_minus || isT ts i s_lpar || isT ts i s_lbrk || isT ts i s_lbrc
abbrev PR := Option (Except Nat (List Nd × Nat))
def pb (r : PR) (k : List Nd → Nat → PR) : PR := match r with
  | none => none
  | some (.error e) => some (.error e)
  | some (.ok (l, i)) => k l i
def pk1 (n : Nd) (i : Nat) : PR := some (.ok ([n], i))
def pb1 (r : PR) (k : Nd → Nat → PR) : PR := pb r fun l i => match l with
  | [n] => k n i
  | _ => none
def wantB (ts : List PT) (s : List UInt8) (i : Nat) (k : Nat → PR) : PR := if isT ts i s = true then k (i + 1) else some (.error i)
def wantK (ts : List PT) (kd : Int) (i : Nat) (k : List UInt8 → Nat → PR) : PR := if (nowT ts i).kind = kd then k (nowT ts i).text (i + 1) else some (.error i)
def singleN (n : Nd) : Bool := decide (n.kind = 36 ∨ n.kind = 45 ∨ n.kind = 46)
mutual
def placeN : Nd → Bool
  | .mk k _ _ _ ks => if k = 52 ∨ k = 51 then placesN ks && !ks.isEmpty else decide (k = 36 ∨ k = 45 ∨ k = 46)
def placesN : List Nd → Bool
  | [] => true
  | n :: ks => placeN n && placesN ks
end
def opT (ts : List PT) (i : Nat) : Except Nat (Nat × Nat) :=
  if isT ts i s_eqeq = true then .ok (1, i + 1) else if isT ts i s_bne = true then .ok (2, i + 1) else if isT ts i s_lt = true then .ok (3, i + 1) else if isT ts i s_le = true then .ok (4, i + 1)
  else if isT ts i s_gt = true then .ok (5, i + 1) else if isT ts i s_ge = true then .ok (6, i + 1) else if isT ts i s_in = true then .ok (7, i + 1)
  else if isT ts i s_not = true then (if isT ts (i + 1) s_in = true then .ok (8, i + 2) else .error (i + 1))
  else if isT ts i s_is = true then (if isT ts (i + 1) s_not = true then .ok (10, i + 2) else .ok (9, i + 1)) else .ok (0, i)
def augT (ts : List PT) (i : Nat) : Nat := if isT ts i s_plusA = true then 1 else if isT ts i s_minusA = true then 2 else if isT ts i s_starA = true then 3 else if isT ts i s_slashA = true then 4 else if isT ts i s_dslashA = true then 5 else if isT ts i s_pctA = true then 6 else if isT ts i s_dstarA = true then 7 else 0
def leafK (k : Int) : Nat := if k = 5 then 30 else if k = 6 then 31 else if k = 7 then 32 else 36
def hdLine (l : Int) : List Nd → Int
  | n :: _ => n.line
  | [] => l
inductive NT where
  | expr | or | and | not | compare | arith | term | factor | primary | atom | exprs | one | places | simple | plain | value | block | stmt
  | params (close : List UInt8) (line : Int) (acc : List Nd)
  | row (close : List UInt8) (acc : List Nd)
  | exprsL (line : Int) (acc : List Nd)
  | orL (n : Nd) | andL (n : Nd) | cmpL (n : Nd) (acc : List Nd) | arithL (n : Nd) | termL (n : Nd) | primL (n : Nd) | index (n : Nd)
  | clauses (acc : List Nd)
  | list (line : Int) | braces (line : Int) | dictL (line : Int) (acc : List Nd)
  | placesL (line : Int) (acc : List Nd)
  | names (kind : Nat) (line : Int) (acc : List Nd)
  | maybe (kind : Nat) (line : Int) (all : Bool)
  | asgL (line : Int) (acc : List Nd)
  | blockL (acc : List Nd)
  | ifs (line : Int) | tries (line : Int) | triesL (acc : List Nd) | triesF (line : Int) (acc : List Nd)
  | top (acc : List Nd)
def gr (ts : List PT) : Nat → NT → Nat → PR
  | 0, _, _ => none
  | f + 1, .expr, i => if isT ts i s_lambda = true then
        pb1 (gr ts f (.params s_colon (nowT ts i).line []) (i + 1)) fun p i1 => wantB ts s_colon i1 fun i2 => pb1 (gr ts f .expr i2) fun e i3 => pk1 (nd 50 (nowT ts i).line [p, e]) i3
      else pb1 (gr ts f .or i) fun a i1 => if isT ts i1 s_if = true then
        pb1 (gr ts f .or (i1 + 1)) fun c i2 => wantB ts s_else i2 fun i3 => pb1 (gr ts f .expr i3) fun e i4 => pk1 (nd 49 a.line [c, a, e]) i4
      else pk1 a i1
  | f + 1, .or, i => pb1 (gr ts f .and i) fun n i1 => gr ts f (.orL n) i1
  | f + 1, .orL n, i => if isT ts i s_or = true then pb1 (gr ts f .and (i + 1)) fun m i1 => gr ts f (.orL (nd 40 n.line [n, m])) i1 else pk1 n i
  | f + 1, .and, i => pb1 (gr ts f .not i) fun n i1 => gr ts f (.andL n) i1
  | f + 1, .andL n, i => if isT ts i s_and = true then pb1 (gr ts f .not (i + 1)) fun m i1 => gr ts f (.andL (nd 39 n.line [n, m])) i1 else pk1 n i
  | f + 1, .not, i => if isT ts i s_not = true then pb1 (gr ts f .not (i + 1)) fun n i1 => pk1 (nd 41 (nowT ts i).line [n]) i1 else gr ts f .compare i
  | f + 1, .compare, i => pb1 (gr ts f .arith i) fun n i1 => gr ts f (.cmpL n []) i1
  | f + 1, .cmpL n acc, i => match opT ts i with
    | .error e => some (.error e)
    | .ok (0, _) => pk1 (if acc.isEmpty then n else nd 42 n.line (n :: acc)) i
    | .ok (op + 1, i1) => pb1 (gr ts f .arith i1) fun m i2 => gr ts f (.cmpL n (acc ++ [.mk 43 (nowT ts i).line [] (op + 1) [m]])) i2
  | f + 1, .arith, i => pb1 (gr ts f .term i) fun n i1 => gr ts f (.arithL n) i1
  | f + 1, .arithL n, i => if isT ts i s_plus = true then pb1 (gr ts f .term (i + 1)) fun m i1 => gr ts f (.arithL (.mk 37 n.line [] 1 [n, m])) i1
      else if isT ts i s_minus = true then pb1 (gr ts f .term (i + 1)) fun m i1 => gr ts f (.arithL (.mk 37 n.line [] 2 [n, m])) i1 else pk1 n i
  | f + 1, .term, i => pb1 (gr ts f .factor i) fun n i1 => gr ts f (.termL n) i1
  | f + 1, .termL n, i => if isT ts i s_star = true then pb1 (gr ts f .factor (i + 1)) fun m i1 => gr ts f (.termL (.mk 37 n.line [] 3 [n, m])) i1
      else if isT ts i s_slash = true then pb1 (gr ts f .factor (i + 1)) fun m i1 => gr ts f (.termL (.mk 37 n.line [] 4 [n, m])) i1
      else if isT ts i s_dslash = true then pb1 (gr ts f .factor (i + 1)) fun m i1 => gr ts f (.termL (.mk 37 n.line [] 5 [n, m])) i1
      else if isT ts i s_pct = true then pb1 (gr ts f .factor (i + 1)) fun m i1 => gr ts f (.termL (.mk 37 n.line [] 6 [n, m])) i1 else pk1 n i
  | f + 1, .factor, i => if isT ts i s_plus = true then pb1 (gr ts f .factor (i + 1)) fun n i1 => pk1 (.mk 38 (nowT ts i).line [] 2 [n]) i1
      else if isT ts i s_minus = true then pb1 (gr ts f .factor (i + 1)) fun n i1 => pk1 (.mk 38 (nowT ts i).line [] 1 [n]) i1
      else pb1 (gr ts f .primary i) fun n i1 => if isT ts i1 s_dstar = true then pb1 (gr ts f .factor (i1 + 1)) fun m i2 => pk1 (.mk 37 n.line [] 7 [n, m]) i2 else pk1 n i1
  | f + 1, .primary, i => pb1 (gr ts f .atom i) fun n i1 => gr ts f (.primL n) i1
  | f + 1, .primL n, i => if isT ts i s_dot = true then wantK ts 4 (i + 1) fun s i1 => gr ts f (.primL (.mk 45 n.line s 0 [n])) i1
      else if isT ts i s_lpar = true then pb (gr ts f (.row s_rpar []) (i + 1)) fun l i1 => wantB ts s_rpar i1 fun i2 => gr ts f (.primL (nd 44 n.line (n :: l))) i2
      else if isT ts i s_lbrk = true then pb1 (gr ts f (.index n) (i + 1)) fun m i1 => wantB ts s_rbrk i1 fun i2 => gr ts f (.primL m) i2 else pk1 n i
  | f + 1, .index n, i => if isT ts i s_colon = true then wantB ts s_colon i fun i2 => if isT ts i2 s_rbrk = true then pk1 (nd 47 n.line [n, nd 48 n.line [], nd 48 n.line []]) i2
          else pb1 (gr ts f .expr i2) fun hi i3 => pk1 (nd 47 n.line [n, nd 48 n.line [], hi]) i3
      else pb1 (gr ts f .expr i) fun lo i1 => if isT ts i1 s_comma = true then pb1 (gr ts f (.exprsL lo.line [lo]) i1) fun m i2 => pk1 (nd 46 n.line [n, m]) i2
        else if isT ts i1 s_colon = true then (if isT ts (i1 + 1) s_rbrk = true then pk1 (nd 47 n.line [n, lo, nd 48 n.line []]) (i1 + 1)
          else pb1 (gr ts f .expr (i1 + 1)) fun hi i3 => pk1 (nd 47 n.line [n, lo, hi]) i3) else pk1 (nd 46 n.line [n, lo]) i1
  | f + 1, .atom, i => if 4 ≤ (nowT ts i).kind ∧ (nowT ts i).kind ≤ 7 then pk1 (.mk (leafK (nowT ts i).kind) (nowT ts i).line (nowT ts i).text 0 []) (i + 1)
      else if isT ts i s_None = true then pk1 (nd 33 (nowT ts i).line []) (i + 1) else if isT ts i s_True = true then pk1 (nd 34 (nowT ts i).line []) (i + 1)
      else if isT ts i s_False = true then pk1 (nd 35 (nowT ts i).line []) (i + 1)
      else if isT ts i s_lpar = true then (if isT ts (i + 1) s_rpar = true then pk1 (nd 52 (nowT ts i).line []) (i + 2) else pb1 (gr ts f .exprs (i + 1)) fun n i1 => wantB ts s_rpar i1 fun i2 => pk1 n i2)
      else if isT ts i s_lbrk = true then pb1 (gr ts f (.list (nowT ts i).line) (i + 1)) fun n i1 => wantB ts s_rbrk i1 fun i2 => pk1 n i2
      else if isT ts i s_lbrc = true then pb1 (gr ts f (.braces (nowT ts i).line) (i + 1)) fun n i1 => wantB ts s_rbrc i1 fun i2 => pk1 n i2
      else some (.error i)
  | f + 1, .exprs, i => pb1 (gr ts f .expr i) fun n i1 => if isT ts i1 s_comma = true then gr ts f (.exprsL n.line [n]) i1 else pk1 n i1
  | f + 1, .exprsL l acc, i => if isT ts i s_comma = true then (if begT ts (i + 1) = true then pb1 (gr ts f .expr (i + 1)) fun e i1 => gr ts f (.exprsL l (acc ++ [e])) i1 else pk1 (nd 52 l acc) (i + 1)) else pk1 (nd 52 l acc) i
  | f + 1, .row cl acc, i => if isT ts i cl = true then some (.ok (acc, i)) else pb1 (gr ts f .expr i) fun e i1 => if isT ts i1 s_comma = true then gr ts f (.row cl (acc ++ [e])) (i1 + 1) else some (.ok (acc ++ [e], i1))
  | f + 1, .params cl l acc, i => if isT ts i cl = true then pk1 (nd 23 l acc) i else wantK ts 4 i fun s i1 => if isT ts i1 s_comma = true then gr ts f (.params cl l (acc ++ [.mk 36 (nowT ts i).line s 0 []])) (i1 + 1) else pk1 (nd 23 l (acc ++ [.mk 36 (nowT ts i).line s 0 []])) i1
  | f + 1, .clauses acc, i => if isT ts i s_for = true then pb1 (gr ts f .places (i + 1)) fun p i1 => wantB ts s_in i1 fun i2 => pb1 (gr ts f .or i2) fun e i3 => gr ts f (.clauses (acc ++ [nd 58 (nowT ts i).line [p, e]])) i3
      else if isT ts i s_if = true then pb1 (gr ts f .or (i + 1)) fun e i1 => gr ts f (.clauses (acc ++ [nd 59 (nowT ts i).line [e]])) i1 else some (.ok (acc, i))
  | f + 1, .list l, i => if isT ts i s_rbrk = true then pk1 (nd 51 l []) i else pb1 (gr ts f .expr i) fun e i1 => if isT ts i1 s_for = true then pb (gr ts f (.clauses []) i1) fun cs i2 => pk1 (nd 55 l (e :: cs)) i2
      else if isT ts i1 s_comma = true then pb (gr ts f (.row s_rbrk []) (i1 + 1)) fun r i2 => pk1 (nd 51 l (e :: r)) i2 else pk1 (nd 51 l [e]) i1
  | f + 1, .braces l, i => if isT ts i s_rbrc = true then pk1 (nd 54 l []) i else pb1 (gr ts f .expr i) fun e i1 => if isT ts i1 s_colon = true then
        pb1 (gr ts f .expr (i1 + 1)) fun v i2 => if isT ts i2 s_for = true then pb (gr ts f (.clauses []) i2) fun cs i3 => pk1 (nd 57 l (e :: v :: cs)) i3 else gr ts f (.dictL l [e, v]) i2
      else if isT ts i1 s_for = true then pb (gr ts f (.clauses []) i1) fun cs i2 => pk1 (nd 56 l (e :: cs)) i2
      else if isT ts i1 s_comma = true then pb (gr ts f (.row s_rbrc []) (i1 + 1)) fun r i2 => pk1 (nd 53 l (e :: r)) i2 else pk1 (nd 53 l [e]) i1
  | f + 1, .dictL l acc, i => if isT ts i s_comma = true then (if isT ts (i + 1) s_rbrc = true then pk1 (nd 54 l acc) (i + 1) else pb1 (gr ts f .expr (i + 1)) fun k i1 => wantB ts s_colon i1 fun i2 => pb1 (gr ts f .expr i2) fun v i3 => gr ts f (.dictL l (acc ++ [k, v])) i3) else pk1 (nd 54 l acc) i
  | f + 1, .one, i => pb1 (gr ts f .primary i) fun n i1 => if placeN n = true then pk1 n i1 else some (.error i1)
  | f + 1, .places, i => pb1 (gr ts f .one i) fun n i1 => if isT ts i1 s_comma = true then gr ts f (.placesL n.line [n]) i1 else pk1 n i1
  | f + 1, .placesL l acc, i => if isT ts i s_comma = true then (if begT ts (i + 1) = true ∧ isT ts (i + 1) s_plus = false ∧ isT ts (i + 1) s_minus = false ∧ isT ts (i + 1) s_not = false ∧ isT ts (i + 1) s_lambda = false then pb1 (gr ts f .one (i + 1)) fun e i1 => gr ts f (.placesL l (acc ++ [e])) i1 else pk1 (nd 52 l acc) (i + 1)) else pk1 (nd 52 l acc) i
  | f + 1, .names k l acc, i => wantK ts 4 i fun s i1 => if isT ts i1 s_comma = true then gr ts f (.names k l (acc ++ [.mk 36 (nowT ts i).line s 0 []])) (i1 + 1) else pk1 (nd k l (acc ++ [.mk 36 (nowT ts i).line s 0 []])) i1
  | f + 1, .maybe k l all, i => if begT ts i = true then pb1 (gr ts f (if all = true then .exprs else .expr) i) fun e i1 => pk1 (nd k l [e]) i1 else pk1 (nd k l []) i
  | f + 1, .value, i => if isT ts i s_yield = true then gr ts f (.maybe 60 (nowT ts i).line true) (i + 1) else gr ts f .exprs i
  | f + 1, .plain, i => pb1 (gr ts f .exprs i) fun n i1 => if isT ts i1 s_asg = true then gr ts f (.asgL n.line [n]) i1
      else if augT ts i1 = 0 then pk1 (nd 2 n.line [n]) i1 else if singleN n = true then pb1 (gr ts f .exprs (i1 + 1)) fun m i2 => pk1 (.mk 4 n.line [] (augT ts i1) [n, m]) i2 else some (.error i1)
  | f + 1, .asgL l acc, i => if isT ts i s_asg = true then (match acc.getLast? with
        | some n => if placeN n = true then pb1 (gr ts f .value (i + 1)) fun v i1 => gr ts f (.asgL l (acc ++ [v])) i1 else some (.error i)
        | none => none) else pk1 (nd 3 l acc) i
  | f + 1, .simple, i => if isT ts i s_pass = true then pk1 (nd 11 (nowT ts i).line []) (i + 1) else if isT ts i s_break = true then pk1 (nd 12 (nowT ts i).line []) (i + 1)
      else if isT ts i s_continue = true then pk1 (nd 13 (nowT ts i).line []) (i + 1) else if isT ts i s_return = true then gr ts f (.maybe 10 (nowT ts i).line true) (i + 1)
      else if isT ts i s_raise = true then gr ts f (.maybe 14 (nowT ts i).line false) (i + 1) else if isT ts i s_global = true then gr ts f (.names 17 (nowT ts i).line []) (i + 1)
      else if isT ts i s_nonlocal = true then gr ts f (.names 18 (nowT ts i).line []) (i + 1) else if isT ts i s_assert = true then pb1 (gr ts f .expr (i + 1)) fun e i1 => pk1 (nd 20 (nowT ts i).line [e]) i1
      else if isT ts i s_yield = true then pb1 (gr ts f (.maybe 60 (nowT ts i).line true) (i + 1)) fun e i1 => pk1 (nd 2 (nowT ts i).line [e]) i1
      else if isT ts i s_del = true then pb1 (gr ts f .primary (i + 1)) fun n i1 => if singleN n = true then pk1 (nd 19 (nowT ts i).line [n]) i1 else some (.error i1)
      else gr ts f .plain i
  | f + 1, .block, i => if (nowT ts i).kind = 1 then wantK ts 2 (i + 1) fun _ i1 => gr ts f (.blockL []) i1 else pb1 (gr ts f .simple i) fun n i1 => wantK ts 1 i1 fun _ i2 => pk1 (nd 1 n.line [n]) i2
  | f + 1, .blockL acc, i => pb1 (gr ts f .stmt i) fun s i1 => if (nowT ts i1).kind = 3 then pk1 (nd 1 (hdLine 0 (acc ++ [s])) (acc ++ [s])) (i1 + 1) else gr ts f (.blockL (acc ++ [s])) i1
  | f + 1, .ifs l, i => pb1 (gr ts f .expr i) fun c i1 => wantB ts s_colon i1 fun i2 => pb1 (gr ts f .block i2) fun b i3 => if isT ts i3 s_elif = true then
        pb1 (gr ts f (.ifs (nowT ts i3).line) (i3 + 1)) fun x i4 => pk1 (nd 5 l [c, b, nd 1 (nowT ts i3).line [x]]) i4
      else if isT ts i3 s_else = true then wantB ts s_colon (i3 + 1) fun i4 => pb1 (gr ts f .block i4) fun e i5 => pk1 (nd 5 l [c, b, e]) i5 else pk1 (nd 5 l [c, b]) i3
  | f + 1, .tries l, i => wantB ts s_colon i fun i1 => pb1 (gr ts f .block i1) fun b i2 => pb (gr ts f (.triesL [b]) i2) fun acc i3 => gr ts f (.triesF l acc) i3
  | f + 1, .triesL acc, i => if isT ts i s_except = true then (if isT ts (i + 1) s_colon = true then pb1 (gr ts f .block (i + 2)) fun b i1 => some (.ok (acc ++ [nd 21 (nowT ts i).line [b]], i1))
        else pb1 (gr ts f .expr (i + 1)) fun e i1 => if isT ts i1 s_as = true then wantK ts 4 (i1 + 1) fun s i2 => wantB ts s_colon i2 fun i3 => pb1 (gr ts f .block i3) fun b i4 => gr ts f (.triesL (acc ++ [.mk 21 (nowT ts i).line s 0 [e, b]])) i4
          else wantB ts s_colon i1 fun i3 => pb1 (gr ts f .block i3) fun b i4 => gr ts f (.triesL (acc ++ [nd 21 (nowT ts i).line [e, b]])) i4) else some (.ok (acc, i))
  | f + 1, .triesF l acc, i => if isT ts i s_finally = true then wantB ts s_colon (i + 1) fun i1 => pb1 (gr ts f .block i1) fun b i2 => pk1 (nd 15 l (acc ++ [nd 22 (nowT ts i).line [b]])) i2
      else if acc.length = 1 then some (.error i) else pk1 (nd 15 l acc) i
  | f + 1, .stmt, i => if isT ts i s_if = true then gr ts f (.ifs (nowT ts i).line) (i + 1)
      else if isT ts i s_while = true then pb1 (gr ts f .expr (i + 1)) fun c i1 => wantB ts s_colon i1 fun i2 => pb1 (gr ts f .block i2) fun b i3 => pk1 (nd 6 (nowT ts i).line [c, b]) i3
      else if isT ts i s_for = true then pb1 (gr ts f .places (i + 1)) fun p i1 => wantB ts s_in i1 fun i2 => pb1 (gr ts f .exprs i2) fun e i3 => wantB ts s_colon i3 fun i4 => pb1 (gr ts f .block i4) fun b i5 => pk1 (nd 7 (nowT ts i).line [p, e, b]) i5
      else if isT ts i s_def = true then wantK ts 4 (i + 1) fun s i1 => wantB ts s_lpar i1 fun i2 => pb1 (gr ts f (.params s_rpar (nowT ts i).line []) i2) fun p i3 => wantB ts s_rpar i3 fun i4 => wantB ts s_colon i4 fun i5 => pb1 (gr ts f .block i5) fun b i6 => pk1 (.mk 8 (nowT ts i).line s 0 [p, b]) i6
      else if isT ts i s_class = true then wantK ts 4 (i + 1) fun s i1 => if isT ts i1 s_lpar = true then pb (gr ts f (.row s_rpar []) (i1 + 1)) fun bs i2 => wantB ts s_rpar i2 fun i3 => wantB ts s_colon i3 fun i4 => pb1 (gr ts f .block i4) fun b i5 => pk1 (.mk 9 (nowT ts i).line s 0 [nd 24 (nowT ts i).line bs, b]) i5
        else wantB ts s_colon i1 fun i4 => pb1 (gr ts f .block i4) fun b i5 => pk1 (.mk 9 (nowT ts i).line s 0 [nd 24 (nowT ts i).line [], b]) i5
      else if isT ts i s_try = true then gr ts f (.tries (nowT ts i).line) (i + 1)
      else if isT ts i s_with = true then pb1 (gr ts f .expr (i + 1)) fun e i1 => if isT ts i1 s_as = true then wantK ts 4 (i1 + 1) fun s i2 => wantB ts s_colon i2 fun i3 => pb1 (gr ts f .block i3) fun b i4 => pk1 (.mk 16 (nowT ts i).line s 0 [e, b]) i4
        else wantB ts s_colon i1 fun i3 => pb1 (gr ts f .block i3) fun b i4 => pk1 (nd 16 (nowT ts i).line [e, b]) i4
      else pb1 (gr ts f .simple i) fun n i1 => wantK ts 1 i1 fun _ i2 => pk1 n i2
  | f + 1, .top acc, i => if (nowT ts i).kind = 0 then some (.ok (acc, i)) else pb1 (gr ts f .stmt i) fun s i1 => gr ts f (.top (acc ++ [s])) i1
end Can
end Go.Proofs.Ytnkfdkfmdeibfaa
end
section
namespace Go.Proofs.Ytnkfdkfmdeibfaa
namespace Can
set_option linter.unusedSimpArgs false
set_option linter.unusedVariables false
mutual
/-- Trees alike but for their lines (lines too, if ln). -/
inductive NR (ln : Bool) : Nd → Nd → Prop
  | mk {k l x o ks l' ks'} (hl : ln = true → l = l') (hs : NRs ln ks ks') : NR ln (.mk k l x o ks) (.mk k l' x o ks')
inductive NRs (ln : Bool) : List Nd → List Nd → Prop
  | nil : NRs ln [] []
  | cons {n n' ks ks'} (h : NR ln n n') (t : NRs ln ks ks') : NRs ln (n :: ks) (n' :: ks')
end
section
variable {ln : Bool}
theorem NR.line {n n' : Nd} (h : NR ln n n') (e : ln = true) : n.line = n'.line := by
  cases h with | mk hl _ => exact hl e
theorem NR.kind {n n' : Nd} (h : NR ln n n') : n.kind = n'.kind := by
  cases h; rfl
theorem NRs.app {a a' b b' : List Nd} (h : NRs ln a a') (g : NRs ln b b') : NRs ln (a ++ b) (a' ++ b') := by
  induction a generalizing a' with
  | nil => cases h; exact g
  | cons x xs ih => cases h with | cons h t => exact .cons h (ih t)
theorem NRs.one {n n' : Nd} (h : NR ln n n') : NRs ln [n] [n'] := .cons h .nil
theorem NRs.len {a a' : List Nd} (h : NRs ln a a') : a.length = a'.length := by
  induction a generalizing a' with
  | nil => cases h; rfl
  | cons x xs ih => cases h with | cons h t => simp [ih t]
theorem NRs.emp {a a' : List Nd} (h : NRs ln a a') : a.isEmpty = a'.isEmpty := by
  cases h <;> rfl
theorem NRs.hd {a a' : List Nd} (h : NRs ln a a') {l l' : Int} (hl : ln = true → l = l') (e : ln = true) : hdLine l a = hdLine l' a' := by
  cases h with
  | nil => exact hl e
  | cons h t => exact h.line e
theorem NRs.last {a a' : List Nd} (h : NRs ln a a') : (a.getLast? = none ∧ a'.getLast? = none) ∨ ∃ n n', a.getLast? = some n ∧ a'.getLast? = some n' ∧ NR ln n n' := by
  induction a generalizing a' with
  | nil => cases h; exact .inl ⟨rfl, rfl⟩
  | cons x xs ih =>
    cases h with
    | cons h t =>
      cases t with
      | nil => exact .inr ⟨_, _, rfl, rfl, h⟩
      | cons h2 t2 =>
        rcases ih (.cons h2 t2) with ⟨e, _⟩ | ⟨n, n', e1, e2, e3⟩
        · simp at e
        · exact .inr ⟨n, n', by rw [List.getLast?_cons_cons]; exact e1, by rw [List.getLast?_cons_cons]; exact e2, e3⟩
theorem NR.single {n n' : Nd} (h : NR ln n n') : singleN n' = singleN n := by
  unfold singleN
  rw [h.kind]
mutual
theorem NR.place : ∀ {n n' : Nd}, NR ln n n' → placeN n' = placeN n
  | _, _, .mk _ hs => by
    simp only [placeN]
    rw [NRs.places hs, hs.emp]
theorem NRs.places : ∀ {a a' : List Nd}, NRs ln a a' → placesN a' = placesN a
  | _, _, .nil => rfl
  | _, _, .cons h t => by
    simp only [placesN]
    rw [NR.place h, NRs.places t]
end
mutual
theorem NR.refl : ∀ n : Nd, NR ln n n
  | .mk _ _ _ _ ks => .mk (fun _ => rfl) (NRs.refl ks)
theorem NRs.refl : ∀ l : List Nd, NRs ln l l
  | [] => .nil
  | n :: l => .cons (NR.refl n) (NRs.refl l)
end
def NT.bare : NT → Bool
  | .expr | .or | .and | .not | .compare | .arith | .term | .factor | .primary | .atom | .exprs | .one | .places | .simple | .plain | .value | .block | .stmt => true
  | _ => false
inductive NTR (ln : Bool) : NT → NT → Prop
  | z {a} (h : a.bare = true) : NTR ln a a
  | params {cl l l' a a'} (hl : ln = true → l = l') (hs : NRs ln a a') : NTR ln (.params cl l a) (.params cl l' a')
  | row {cl a a'} (hs : NRs ln a a') : NTR ln (.row cl a) (.row cl a')
  | exprsL {l l' a a'} (hl : ln = true → l = l') (hs : NRs ln a a') : NTR ln (.exprsL l a) (.exprsL l' a')
  | orL {n n'} (h : NR ln n n') : NTR ln (.orL n) (.orL n')
  | andL {n n'} (h : NR ln n n') : NTR ln (.andL n) (.andL n')
  | cmpL {n n' a a'} (h : NR ln n n') (hs : NRs ln a a') : NTR ln (.cmpL n a) (.cmpL n' a')
  | arithL {n n'} (h : NR ln n n') : NTR ln (.arithL n) (.arithL n')
  | termL {n n'} (h : NR ln n n') : NTR ln (.termL n) (.termL n')
  | primL {n n'} (h : NR ln n n') : NTR ln (.primL n) (.primL n')
  | index {n n'} (h : NR ln n n') : NTR ln (.index n) (.index n')
  | clauses {a a'} (hs : NRs ln a a') : NTR ln (.clauses a) (.clauses a')
  | list {l l'} (hl : ln = true → l = l') : NTR ln (.list l) (.list l')
  | braces {l l'} (hl : ln = true → l = l') : NTR ln (.braces l) (.braces l')
  | dictL {l l' a a'} (hl : ln = true → l = l') (hs : NRs ln a a') : NTR ln (.dictL l a) (.dictL l' a')
  | placesL {l l' a a'} (hl : ln = true → l = l') (hs : NRs ln a a') : NTR ln (.placesL l a) (.placesL l' a')
  | names {k l l' a a'} (hl : ln = true → l = l') (hs : NRs ln a a') : NTR ln (.names k l a) (.names k l' a')
  | maybe {k l l' b} (hl : ln = true → l = l') : NTR ln (.maybe k l b) (.maybe k l' b)
  | asgL {l l' a a'} (hl : ln = true → l = l') (hs : NRs ln a a') : NTR ln (.asgL l a) (.asgL l' a')
  | blockL {a a'} (hs : NRs ln a a') : NTR ln (.blockL a) (.blockL a')
  | ifs {l l'} (hl : ln = true → l = l') : NTR ln (.ifs l) (.ifs l')
  | tries {l l'} (hl : ln = true → l = l') : NTR ln (.tries l) (.tries l')
  | triesL {a a'} (hs : NRs ln a a') : NTR ln (.triesL a) (.triesL a')
  | triesF {l l' a a'} (hl : ln = true → l = l') (hs : NRs ln a a') : NTR ln (.triesF l a) (.triesF l' a')
theorem NTR.refl {a : NT} (h : ∀ acc, a ≠ .top acc) : NTR ln a a := by
  cases a
  case top acc => exact absurd rfl (h acc)
  all_goals first
    | exact .z rfl
    | exact .params (fun _ => rfl) (NRs.refl _)
    | exact .row (NRs.refl _)
    | exact .exprsL (fun _ => rfl) (NRs.refl _)
    | exact .orL (NR.refl _)
    | exact .andL (NR.refl _)
    | exact .cmpL (NR.refl _) (NRs.refl _)
    | exact .arithL (NR.refl _)
    | exact .termL (NR.refl _)
    | exact .primL (NR.refl _)
    | exact .index (NR.refl _)
    | exact .clauses (NRs.refl _)
    | exact .list (fun _ => rfl)
    | exact .braces (fun _ => rfl)
    | exact .dictL (fun _ => rfl) (NRs.refl _)
    | exact .placesL (fun _ => rfl) (NRs.refl _)
    | exact .names (fun _ => rfl) (NRs.refl _)
    | exact .maybe (fun _ => rfl)
    | exact .asgL (fun _ => rfl) (NRs.refl _)
    | exact .blockL (NRs.refl _)
    | exact .ifs (fun _ => rfl)
    | exact .tries (fun _ => rfl)
    | exact .triesL (NRs.refl _)
    | exact .triesF (fun _ => rfl) (NRs.refl _)
def NT.stat : NT → Bool
  | .block | .stmt | .blockL _ | .ifs _ | .tries _ | .triesL _ | .triesF _ _ => true
  | _ => false
def NT.adv : NT → Bool
  | .block | .stmt | .blockL _ | .ifs _ | .tries _ => true
  | _ => false
def NT.isTop : NT → Bool
  | .top _ => true
  | _ => false
structure TA (ts us : List PT) (N Nb d : Nat) (ln : Bool) : Prop where
  tok : ∀ p, p < N → (nowT us (p + d)).kind = (nowT ts p).kind ∧ ((nowT ts p).kind ≠ 3 → (nowT us (p + d)).text = (nowT ts p).text ∧ (ln = true → (nowT ts p).line = (nowT us (p + d)).line))
  nb : Nb = N ∨ (Nb = N + 1 ∧ (∀ s, s = s_elif ∨ s = s_else ∨ s = s_except ∨ s = s_finally → isT us (N + d) s = false ∧ isT ts N s = false) ∧ (nowT us (N + d)).kind ≠ 3 ∧ (nowT ts N).kind ≠ 3)
variable {ts us : List PT} {N Nb d : Nat}
theorem TA.is (C : TA ts us N Nb d ln) {p p' : Nat} (hp : p < N) (e : p' = p + d) (s : List UInt8) : isT us p' s = isT ts p s := by
  subst e
  obtain ⟨h1, h2⟩ := C.tok p hp
  unfold isT
  by_cases hk : (nowT ts p).kind = 3
  · rw [h1, hk]
    rw [decide_eq_false (by rintro ⟨h | h, _⟩ <;> cases h), decide_eq_false (by rintro ⟨h | h, _⟩ <;> cases h)]
  · rw [h1, (h2 hk).1]
theorem TA.knd (C : TA ts us N Nb d ln) {p p' : Nat} (hp : p < N) (e : p' = p + d) : (nowT us p').kind = (nowT ts p).kind := by
  subst e; exact (C.tok p hp).1
theorem TA.txt (C : TA ts us N Nb d ln) {p p' : Nat} (hp : p < N) (e : p' = p + d) (hk : (nowT ts p).kind ≠ 3) : (nowT us p').text = (nowT ts p).text := by
  subst e; exact ((C.tok p hp).2 hk).1
theorem TA.lne (C : TA ts us N Nb d ln) {p p' : Nat} (hp : p < N) (e : p' = p + d) (hk : (nowT ts p).kind ≠ 3) (h : ln = true) : (nowT ts p).line = (nowT us p').line := by
  subst e; exact ((C.tok p hp).2 hk).2 h
theorem is_k3 {ts : List PT} {p : Nat} {s : List UInt8} (h : isT ts p s = true) : (nowT ts p).kind ≠ 3 := fun e => by
  unfold isT at h
  rw [e] at h
  simp at h
theorem kk_k3 {k : Int} (h : 4 ≤ k ∧ k ≤ 7) : k ≠ 3 := by omega
theorem TA.beg (C : TA ts us N Nb d ln) {p p' : Nat} (hp : p < N) (e : p' = p + d) : begT us p' = begT ts p := by
  unfold begT
  simp only [C.is hp e, C.knd hp e]
theorem TA.aug (C : TA ts us N Nb d ln) {p p' : Nat} (hp : p < N) (e : p' = p + d) : augT us p' = augT ts p := by
  unfold augT
  simp only [C.is hp e]
theorem TA.le (C : TA ts us N Nb d ln) : N ≤ Nb ∧ Nb ≤ N + 1 := by
  rcases C.nb with h | ⟨h, _⟩ <;> omega
def RR (N d : Nat) (ln : Bool) (M i L : Nat) (r r' : PR) : Prop := match r with
  | none => True
  | some (.error e) => i ≤ e ∧ (e < N → r' = some (.error (e + d)))
  | some (.ok (l, j)) => L ≤ j ∧ (j < M → ∃ l', r' = some (.ok (l', j + d)) ∧ NRs ln l l')
variable {M i L : Nat}
theorem RR.far {r r' r'' : PR} (h : RR N d ln M i L r r') (hi : N ≤ i) (hL : M ≤ L) : RR N d ln M i L r r'' := by
  match r, h with
  | none, _ => exact trivial
  | some (.error e), h => exact ⟨h.1, fun g => absurd (show e < N from g) (by have := h.1; omega)⟩
  | some (.ok (l, j)), h => exact ⟨h.1, fun g => absurd (show j < M from g) (by have := h.1; omega)⟩
theorem RR.weak {r r' : PR} {i2 L2 : Nat} (h : RR N d ln M i2 L2 r r') (hi : i ≤ i2) (hL : L ≤ L2) : RR N d ln M i L r r' := by
  match r, h with
  | none, _ => exact trivial
  | some (.error e), h => exact ⟨Nat.le_trans hi h.1, h.2⟩
  | some (.ok (l, j)), h => exact ⟨Nat.le_trans hL h.1, h.2⟩
theorem rr_err {p p' : Nat} (hi : i ≤ p) (hp : p' = p + d) : RR N d ln M i L (some (.error p)) (some (.error p')) := ⟨hi, fun _ => by rw [hp]⟩
theorem rr_ok {l l' : List Nd} {p p' : Nat} (hL : L ≤ p) (hp : p' = p + d) (hn : p < M → NRs ln l l') : RR N d ln M i L (some (.ok (l, p))) (some (.ok (l', p'))) := ⟨hL, fun h => ⟨l', by rw [hp], hn h⟩⟩
theorem rr_pk {n n' : Nd} {p p' : Nat} (hL : L ≤ p) (hp : p' = p + d) (hn : p < M → NR ln n n') : RR N d ln M i L (pk1 n p) (pk1 n' p') := rr_ok hL hp fun h => .one (hn h)
theorem rr_if {c c' : Prop} [Decidable c] [Decidable c'] {p : Nat} {A A' B B' : PR} (hc : p < N ∨ ¬ (M ≤ L) → (c ↔ c')) (hi : i ≤ p) (hA : c → RR N d ln M p L A A') (hB : RR N d ln M p L B B') : RR N d ln M i L (if c then A else B) (if c' then A' else B') := by
  by_cases h : p < N ∨ ¬ (M ≤ L)
  · have := hc h
    by_cases g : c
    · rw [if_pos g, if_pos (this.1 g)]; exact (hA g).weak hi (Nat.le_refl _)
    · rw [if_neg g, if_neg (fun x => g (this.2 x))]; exact hB.weak hi (Nat.le_refl _)
  · by_cases g : c
    · rw [if_pos g]; exact ((hA g).far (by omega) (by omega)).weak hi (Nat.le_refl _)
    · rw [if_neg g]; exact (hB.far (by omega) (by omega)).weak hi (Nat.le_refl _)
theorem rr_wantB (C : TA ts us N Nb d ln) {p p' : Nat} {s : List UInt8} {k k' : Nat → PR} (hp : p' = p + d) (hi : i ≤ p) (hL : L ≤ p + 1) (hM : M ≤ N + 1) (hk : RR N d ln M (p + 1) (p + 1) (k (p + 1)) (k' (p' + 1))) : RR N d ln M i L (wantB ts s p k) (wantB us s p' k') := by
  unfold wantB
  rcases Nat.lt_or_ge p N with h | h
  · rw [C.is h hp]
    by_cases g : isT ts p s = true
    · rw [if_pos g, if_pos g]; exact hk.weak (by omega) hL
    · rw [if_neg g, if_neg g]; exact rr_err hi hp
  · by_cases g : isT ts p s = true
    · rw [if_pos g]; exact (hk.far (by omega) (by omega)).weak (by omega) hL
    · rw [if_neg g]; exact ⟨hi, fun x => absurd x (by omega)⟩
theorem rr_wantK (C : TA ts us N Nb d ln) {p p' : Nat} {kd : Int} {k k' : List UInt8 → Nat → PR} (hk3 : kd ≠ 3) (hp : p' = p + d) (hi : i ≤ p) (hL : L ≤ p + 1) (hM : M ≤ N + 1) (hk : (nowT ts p).kind ≠ 3 → ∀ s, RR N d ln M (p + 1) (p + 1) (k s (p + 1)) (k' s (p' + 1))) : RR N d ln M i L (wantK ts kd p k) (wantK us kd p' k') := by
  unfold wantK
  rcases Nat.lt_or_ge p N with h | h
  · rw [C.knd h hp]
    by_cases g : (nowT ts p).kind = kd
    · rw [C.txt h hp (by rw [g]; exact hk3), if_pos g, if_pos g]; exact (hk (by rw [g]; exact hk3) _).weak (by omega) hL
    · rw [if_neg g, if_neg g]; exact rr_err hi hp
  · by_cases g : (nowT ts p).kind = kd
    · rw [if_pos g]; exact ((hk (by rw [g]; exact hk3) _).far (by omega) (by omega)).weak (by omega) hL
    · rw [if_neg g]; exact ⟨hi, fun x => absurd x (by omega)⟩
theorem rr_pb (Ms δ : Nat) {p Ls : Nat} {r r' : PR} {k k' : List Nd → Nat → PR} (h : RR N d ln Ms p Ls r r') (hi : i ≤ p) (hs : p ≤ Ls) (hL : L ≤ Ls + δ) (hM : N ≤ Ms ∧ M ≤ Ms + δ) (hk : ∀ l l' j j', j' = j + d → Ls ≤ j → NRs ln l l' → RR N d ln M j (j + δ) (k l j) (k' l' j')) : RR N d ln M i L (pb r k) (pb r' k') := by
  match r, h with
  | none, _ => exact trivial
  | some (.error e), h => exact ⟨Nat.le_trans hi h.1, fun g => by rw [h.2 g]; rfl⟩
  | some (.ok (l, j)), h =>
    show RR N d ln M i L (k l j) _
    have h1 : Ls ≤ j := h.1
    rcases Nat.lt_or_ge j Ms with g | g
    · obtain ⟨l', e, hn⟩ := h.2 g
      rw [e]
      exact (hk l l' j _ rfl h1 hn).weak (by omega) (by omega)
    · exact ((hk l l j _ rfl h1 (NRs.refl l)).far (by omega) (by omega)).weak (by omega) (by omega)
theorem rr_pb1 (Ms δ : Nat) {p Ls : Nat} {r r' : PR} {k k' : Nd → Nat → PR} (h : RR N d ln Ms p Ls r r') (hi : i ≤ p) (hs : p ≤ Ls) (hL : L ≤ Ls + δ) (hM : N ≤ Ms ∧ M ≤ Ms + δ) (hk : ∀ n n' j j', j' = j + d → Ls ≤ j → NR ln n n' → RR N d ln M j (j + δ) (k n j) (k' n' j')) : RR N d ln M i L (pb1 r k) (pb1 r' k') := by
  refine rr_pb Ms δ h hi hs hL hM fun l l' j j' e hj hn => ?_
  match l, hn with
  | [], _ => exact trivial
  | _ :: _ :: _, _ => exact trivial
  | [n], .cons h1 .nil => exact hk _ _ j j' e hj h1
theorem rr_is (C : TA ts us N Nb d ln) (δ : Nat) {p p' : Nat} {s : List UInt8} {A A' B B' : PR} (hp : p' = p + d) (hi : i ≤ p) (hL : L ≤ p + δ) (hM : M ≤ N + δ) (hA : isT ts p s = true → RR N d ln M p (p + δ) A A') (hB : RR N d ln M p (p + δ) B B') : RR N d ln M i L (if isT ts p s = true then A else B) (if isT us p' s = true then A' else B') :=
  (rr_if (p := p) (fun h => by rw [C.is (by omega) hp]) (Nat.le_refl _) hA hB).weak hi hL
theorem rr_sp (C : TA ts us N Nb d ln) {p p' : Nat} {s : List UInt8} {A A' B B' : PR} (hs : s = s_elif ∨ s = s_else ∨ s = s_except ∨ s = s_finally) (hp : p' = p + d) (hi : i ≤ p) (hL : L ≤ p) (hM : M = Nb) (hA : isT ts p s = true → RR N d ln M p p A A') (hB : RR N d ln M p p B B') : RR N d ln M i L (if isT ts p s = true then A else B) (if isT us p' s = true then A' else B') := by
  refine (rr_if (p := p) (fun h => ?_) (Nat.le_refl _) hA hB).weak hi hL
  rcases Nat.lt_or_ge p N with g | g
  · rw [C.is g hp]
  · rcases C.nb with e | ⟨e, h2, _⟩
    · omega
    · have : p = N := by omega
      subst this
      rw [hp, (h2 s hs).1, (h2 s hs).2]
theorem rr_k3 (C : TA ts us N Nb d ln) {p p' : Nat} {A A' B B' : PR} (hp : p' = p + d) (hi : i ≤ p) (hL : L ≤ p) (hM : M = Nb) (hA : RR N d ln M p p A A') (hB : RR N d ln M p p B B') : RR N d ln M i L (if (nowT ts p).kind = 3 then A else B) (if (nowT us p').kind = 3 then A' else B') := by
  refine (rr_if (p := p) (fun h => ?_) (Nat.le_refl _) (fun _ => hA) hB).weak hi hL
  rcases Nat.lt_or_ge p N with g | g
  · rw [C.knd g hp]
  · rcases C.nb with e | ⟨e, _, h3, h4⟩
    · omega
    · have : p = N := by omega
      subst this
      rw [hp]
      exact ⟨fun x => absurd x h4, fun x => absurd x h3⟩
theorem rr_kd (C : TA ts us N Nb d ln) (δ : Nat) {p p' : Nat} {kd : Int} {A A' B B' : PR} (hp : p' = p + d) (hi : i ≤ p) (hL : L ≤ p + δ) (hM : M ≤ N + δ) (hA : RR N d ln M p (p + δ) A A') (hB : RR N d ln M p (p + δ) B B') : RR N d ln M i L (if (nowT ts p).kind = kd then A else B) (if (nowT us p').kind = kd then A' else B') :=
  (rr_if (p := p) (fun h => by rw [C.knd (by omega) hp]) (Nat.le_refl _) (fun _ => hA) hB).weak hi hL
theorem rr_beg (C : TA ts us N Nb d ln) {p p' : Nat} {A A' B B' : PR} (hp : p' = p + d) (hi : i ≤ p) (hL : L ≤ p) (hM : M = N) (hA : RR N d ln M p p A A') (hB : RR N d ln M p p B B') : RR N d ln M i L (if begT ts p = true then A else B) (if begT us p' = true then A' else B') :=
  (rr_if (p := p) (fun h => by rw [C.beg (by omega) hp]) (Nat.le_refl _) (fun _ => hA) hB).weak hi hL
theorem rr_au (C : TA ts us N Nb d ln) {p p' : Nat} {A A' B B' : PR} (hp : p' = p + d) (hi : i ≤ p) (hL : L ≤ p) (hM : M = N) (hA : RR N d ln M p p A A') (hB : RR N d ln M p p B B') : RR N d ln M i L (if augT ts p = 0 then A else B) (if augT us p' = 0 then A' else B') :=
  (rr_if (p := p) (fun h => by rw [C.aug (by omega) hp]) (Nat.le_refl _) (fun _ => hA) hB).weak hi hL
theorem rr_pl (C : TA ts us N Nb d ln) {p p' : Nat} {A A' B B' : PR} (hp : p' = p + d) (hi : i ≤ p) (hL : L ≤ p) (hM : M = N) (hA : RR N d ln M p p A A') (hB : RR N d ln M p p B B') : RR N d ln M i L (if begT ts p = true ∧ isT ts p s_plus = false ∧ isT ts p s_minus = false ∧ isT ts p s_not = false ∧ isT ts p s_lambda = false then A else B) (if begT us p' = true ∧ isT us p' s_plus = false ∧ isT us p' s_minus = false ∧ isT us p' s_not = false ∧ isT us p' s_lambda = false then A' else B') :=
  (rr_if (p := p) (fun h => by simp only [C.beg (p := p) (by omega) hp, C.is (p := p) (by omega) hp]) (Nat.le_refl _) (fun _ => hA) hB).weak hi hL
theorem rr_kk (C : TA ts us N Nb d ln) {p p' : Nat} {a b : Int} {A A' B B' : PR} (hp : p' = p + d) (hi : i ≤ p) (hL : L ≤ p) (hM : M = N) (hA : a ≤ (nowT ts p).kind ∧ (nowT ts p).kind ≤ b → RR N d ln M p p A A') (hB : RR N d ln M p p B B') : RR N d ln M i L (if a ≤ (nowT ts p).kind ∧ (nowT ts p).kind ≤ b then A else B) (if a ≤ (nowT us p').kind ∧ (nowT us p').kind ≤ b then A' else B') :=
  (rr_if (p := p) (fun h => by rw [C.knd (p := p) (by omega) hp]) (Nat.le_refl _) hA hB).weak hi hL
theorem NR.mk' {k k' : Nat} {l l' : Int} {x x' : List UInt8} {o o' : Nat} {ks ks' : List Nd} (hk : k = k') (hx : x = x') (ho : o = o') (hl : ln = true → l = l') (hs : NRs ln ks ks') : NR ln (.mk k l x o ks) (.mk k' l' x' o' ks') := by
  subst hk hx ho
  exact .mk hl hs
def opQ (p : Nat) : Except Nat (Nat × Nat) → Prop
  | .error e => p ≤ e
  | .ok (op, j) => op ≠ 0 → p + 1 ≤ j
theorem opQ_if {c : Prop} [Decidable c] {p : Nat} {a b : Except Nat (Nat × Nat)} (h1 : opQ p a) (h2 : opQ p b) : opQ p (if c then a else b) := by
  split
  · exact h1
  · exact h2
theorem opT_at (ts : List PT) (p : Nat) : opQ p (opT ts p) := by
  unfold opT
  repeat' first
    | (with_reducible refine opQ_if ?_ ?_)
    | exact fun _ => Nat.le_refl _
    | exact fun h => absurd rfl h
    | exact (show p ≤ p + 1 by omega)
    | exact fun _ => (show p + 1 ≤ p + 2 by omega)
theorem rr_op (C : TA ts us N Nb d ln) {p p' : Nat} {A A' : PR} {B B' : Nat → Nat → PR} (hp : p' = p + d) (hM : M = N) (hA : RR N d ln M p p A A') (hB' : (nowT ts p).kind ≠ 3 → ∀ op j j', j' = j + d → p + 1 ≤ j → RR N d ln M j j (B op j) (B' op j')) :
    RR N d ln M p p (match opT ts p with | .error e => some (.error e) | .ok (0, _) => A | .ok (op + 1, j) => B op j) (match opT us p' with | .error e => some (.error e) | .ok (0, _) => A' | .ok (op + 1, j) => B' op j) := by
  subst hM
  have far : ∀ (r r' : PR), RR M d ln M p p r r' → M ≤ p → ∀ r'', RR M d ln M p p r r'' := fun r r' h g r'' => h.far g g
  by_cases k3 : (nowT ts p).kind = 3
  · have hno : ∀ (vs : List PT) (n : Nat), (nowT vs n).kind = 3 → opT vs n = .ok (0, n) := fun vs n hk => by
      have h : ∀ s, isT vs n s = false := fun s => by
        cases hs : isT vs n s with
        | false => rfl
        | true => exact absurd hk (is_k3 hs)
      unfold opT
      simp only [h, Bool.false_eq_true, if_false]
    rw [hno ts p k3]
    rcases Nat.lt_or_ge p M with h | h
    · rw [hno us p' (by rw [C.knd h hp]; exact k3)]
      exact hA
    · exact far _ _ hA h _
  have hB := hB' k3
  have hb1 : ∀ op, RR M d ln M p p (B op (p + 1)) (B' op (p' + 1)) := fun op => (hB op (p + 1) (p' + 1) (by omega) (by omega)).weak (by omega) (by omega)
  have hb2 : ∀ op, RR M d ln M (p + 2) (p + 2) (B op (p + 2)) (B' op (p' + 2)) := fun op => hB op (p + 2) (p' + 2) (by omega) (by omega)
  rcases Nat.lt_or_ge p M with h | h
  · unfold opT
    simp only [C.is h hp]
    by_cases g : isT ts p s_eqeq = true; · rw [if_pos g, if_pos g]; exact hb1 0
    rw [if_neg g, if_neg g]
    by_cases g : isT ts p s_bne = true; · rw [if_pos g, if_pos g]; exact hb1 1
    rw [if_neg g, if_neg g]
    by_cases g : isT ts p s_lt = true; · rw [if_pos g, if_pos g]; exact hb1 2
    rw [if_neg g, if_neg g]
    by_cases g : isT ts p s_le = true; · rw [if_pos g, if_pos g]; exact hb1 3
    rw [if_neg g, if_neg g]
    by_cases g : isT ts p s_gt = true; · rw [if_pos g, if_pos g]; exact hb1 4
    rw [if_neg g, if_neg g]
    by_cases g : isT ts p s_ge = true; · rw [if_pos g, if_pos g]; exact hb1 5
    rw [if_neg g, if_neg g]
    by_cases g : isT ts p s_in = true; · rw [if_pos g, if_pos g]; exact hb1 6
    rw [if_neg g, if_neg g]
    by_cases g : isT ts p s_not = true
    · rw [if_pos g, if_pos g]
      rcases Nat.lt_or_ge (p + 1) M with h2 | h2
      · rw [C.is h2 (p' := p' + 1) (by omega)]
        by_cases g : isT ts (p + 1) s_in = true
        · rw [if_pos g, if_pos g]; exact (hb2 7).weak (by omega) (by omega)
        · rw [if_neg g, if_neg g]; exact rr_err (by omega) (by omega)
      · by_cases g : isT ts (p + 1) s_in = true
        · rw [if_pos g]; exact ((hb2 7).far (by omega) (by omega)).weak (by omega) (by omega)
        · rw [if_neg g]; exact ⟨by omega, fun x => absurd x (by omega)⟩
    rw [if_neg g, if_neg g]
    by_cases g : isT ts p s_is = true
    · rw [if_pos g, if_pos g]
      rcases Nat.lt_or_ge (p + 1) M with h2 | h2
      · rw [C.is h2 (p' := p' + 1) (by omega)]
        by_cases g : isT ts (p + 1) s_not = true
        · rw [if_pos g, if_pos g]; exact (hb2 9).weak (by omega) (by omega)
        · rw [if_neg g, if_neg g]; exact hb1 8
      · by_cases g : isT ts (p + 1) s_not = true
        · rw [if_pos g]; exact ((hb2 9).far (by omega) (by omega)).weak (by omega) (by omega)
        · rw [if_neg g]; exact ((hB 8 (p + 1) (p' + 1) (by omega) (by omega)).far (by omega) (by omega)).weak (by omega) (by omega)
    · rw [if_neg g, if_neg g]; exact hA
  · have hop : ∀ e, opT ts p = .error e → p ≤ e := fun e he => by
      have := opT_at ts p
      rw [he] at this
      exact this
    have hoj : ∀ op j, opT ts p = .ok (op + 1, j) → p + 1 ≤ j := fun op j he => by
      have := opT_at ts p
      rw [he] at this
      exact this (by omega)
    generalize hr : opT ts p = r at hop hoj ⊢
    match r, hop, hoj with
    | .error e, hop, _ => have := hop e rfl; exact ⟨this, fun x => absurd x (by omega)⟩
    | .ok (0, _), _, _ => exact far _ _ hA h _
    | .ok (op + 1, j), _, hoj => have := hoj op j rfl; exact ((hB op j (j + d) rfl this).far (by omega) (by omega)).weak (by omega) (by omega)
theorem rr_same {c : Prop} [Decidable c] {A A' B B' : PR} (hA : RR N d ln M i L A A') (hB : RR N d ln M i L B B') : RR N d ln M i L (if c then A else B) (if c then A' else B') := by
  split
  · exact hA
  · exact hB
def NT.grp : NT → Nat
  | .expr | .or | .orL _ | .and | .andL _ | .not | .compare | .arith | .arithL _ | .term | .factor | .primary | .one | .places => 0
  | .termL _ | .primL _ | .index _ | .clauses _ | .list _ | .braces _ | .dictL _ _ => 1
  | .atom | .exprs | .exprsL _ _ | .row _ _ | .params _ _ _ | .placesL _ _ | .names _ _ _ | .maybe _ _ _ | .value | .plain => 2
  | .simple => 3
  | .block | .blockL _ | .ifs _ | .tries _ | .triesL _ | .stmt => 4
  | .cmpL _ _ | .asgL _ _ | .triesF _ _ => 5
  | .top _ => 99
structure IH (ts us : List PT) (N Nb d : Nat) (ln : Bool) (f : Nat) : Prop where
  E : ∀ a a' i i', i' = i + d → a.stat = false → a.adv = false → a.isTop = false → (i < N → NTR ln a a') → RR N d ln N i i (gr ts f a i) (gr us f a' i')
  A : ∀ a a' i i', i' = i + d → a.stat = true → a.adv = true → (i < Nb → NTR ln a a') → RR N d ln Nb i (i + 1) (gr ts f a i) (gr us f a' i')
  S : ∀ a a' i i', i' = i + d → a.stat = true → a.adv = false → (i < Nb → NTR ln a a') → RR N d ln Nb i i (gr ts f a i) (gr us f a' i')
  m : ∀ (all : Bool) j j', j' = j + d → RR N d ln N j j (gr ts f (if all = true then .exprs else .expr) j) (gr us f (if all = true then .exprs else .expr) j')
set_option maxHeartbeats 4000000 in
theorem gl0 (C : TA ts us N Nb d ln) {f : Nat} (h : IH ts us N Nb d ln f) (a a' : NT) (i i' : Nat) (hg : a.grp = 0) (hi' : i' = i + d) (ha : NTR ln a a') : RR N d ln (if a.stat = true then Nb else N) i (if a.adv = true then i + 1 else i) (gr ts (f + 1) a i) (gr us (f + 1) a' i') := by
  have hN := C.le.1
  have hN1 := C.le.2
  cases ha
  case' z hb => cases a
  all_goals first | (cases hb; done) | (cases hg; done) | simp only [gr, NT.stat, NT.adv, Bool.false_eq_true, ↓reduceIte]
  all_goals (repeat' first
    | (with_reducible refine rr_err (by omega) (by omega))
    | (with_reducible refine rr_pk (by omega) (by omega) fun hj => ?_)
    | (with_reducible refine rr_ok (by omega) (by omega) fun hj => ?_)
    | (with_reducible refine rr_wantB C (by omega) (by omega) (by omega) (by omega) ?_)
    | (with_reducible refine rr_wantK C (by decide) (by omega) (by omega) (by omega) (by omega) fun hk s => ?_)
    | (with_reducible refine rr_sp C (by first | exact .inl rfl | exact .inr (.inl rfl) | exact .inr (.inr (.inl rfl)) | exact .inr (.inr (.inr rfl))) (by omega) (by omega) (by omega) (by first | rfl | omega) (fun ht => ?_) ?_)
    | (with_reducible refine rr_is C 0 (by omega) (by omega) (by omega) (by omega) (fun ht => ?_) ?_)
    | (with_reducible refine rr_is C 1 (by omega) (by omega) (by omega) (by omega) (fun ht => ?_) ?_)
    | (with_reducible refine rr_k3 C (by omega) (by omega) (by omega) (by first | rfl | omega) ?_ ?_)
    | (with_reducible refine rr_kd C 1 (by omega) (by omega) (by omega) (by omega) ?_ ?_)
    | (with_reducible refine rr_same ?_ ?_)
    | (with_reducible refine rr_au C (by omega) (by omega) (by omega) (by first | rfl | omega) ?_ ?_)
    | (with_reducible refine rr_pl C (by omega) (by omega) (by omega) (by first | rfl | omega) ?_ ?_)
    | (with_reducible refine rr_kk C (by omega) (by omega) (by omega) (by first | rfl | omega) (fun ht => ?_) ?_)
    | (with_reducible refine rr_beg C (by omega) (by omega) (by omega) (by first | rfl | omega) ?_ ?_)
    | (with_reducible refine rr_pb1 N 0 (h.E _ _ _ _ (by omega) (by with_unfolding_all exact rfl) (by with_unfolding_all exact rfl) (by with_unfolding_all exact rfl) fun hj => ?_) (by omega) (by omega) (by omega) (by omega) fun n n' j j' e hj hn => ?_)
    | (with_reducible refine rr_pb1 N 1 (h.E _ _ _ _ (by omega) (by with_unfolding_all exact rfl) (by with_unfolding_all exact rfl) (by with_unfolding_all exact rfl) fun hj => ?_) (by omega) (by omega) (by omega) (by omega) fun n n' j j' e hj hn => ?_)
    | (with_reducible refine rr_pb1 Nb 0 (h.A _ _ _ _ (by omega) (by with_unfolding_all exact rfl) (by with_unfolding_all exact rfl) fun hj => ?_) (by omega) (by omega) (by omega) (by omega) fun n n' j j' e hj hn => ?_)
    | (with_reducible refine rr_pb N 0 (h.E _ _ _ _ (by omega) (by with_unfolding_all exact rfl) (by with_unfolding_all exact rfl) (by with_unfolding_all exact rfl) fun hj => ?_) (by omega) (by omega) (by omega) (by omega) fun n n' j j' e hj hn => ?_)
    | (with_reducible refine rr_pb N 1 (h.E _ _ _ _ (by omega) (by with_unfolding_all exact rfl) (by with_unfolding_all exact rfl) (by with_unfolding_all exact rfl) fun hj => ?_) (by omega) (by omega) (by omega) (by omega) fun n n' j j' e hj hn => ?_)
    | (with_reducible refine rr_pb Nb 0 (h.S _ _ _ _ (by omega) (by with_unfolding_all exact rfl) (by with_unfolding_all exact rfl) fun hj => ?_) (by omega) (by omega) (by omega) (by omega) fun n n' j j' e hj hn => ?_)
    | (with_reducible refine rr_pb1 N 0 (h.m _ _ _ (by omega)) (by omega) (by omega) (by omega) (by omega) fun n n' j j' e hj hn => ?_)
    | (with_reducible refine (h.E _ _ _ _ (by omega) (by with_unfolding_all exact rfl) (by with_unfolding_all exact rfl) (by with_unfolding_all exact rfl) fun hj => ?_).weak (by omega) (by omega))
    | (with_reducible refine (h.A _ _ _ _ (by omega) (by with_unfolding_all exact rfl) (by with_unfolding_all exact rfl) fun hj => ?_).weak (by omega) (by omega))
    | (with_reducible refine (h.S _ _ _ _ (by omega) (by with_unfolding_all exact rfl) (by with_unfolding_all exact rfl) fun hj => ?_).weak (by omega) (by omega))
    | (with_reducible assumption)
    | (with_reducible exact .z rfl)
    | (intro (hl : ln = true))
    | (with_reducible refine C.lne (by omega) (by omega) (by first | exact is_k3 (by assumption) | exact kk_k3 (by assumption) | assumption) (by assumption))
    | (with_reducible refine NR.line ?_ (by assumption))
    | (with_reducible refine NRs.hd ?_ ?_ (by assumption))
    | exact rfl
    | exact NRs.nil
    | (with_reducible refine NRs.app ?_ ?_)
    | (with_reducible refine NRs.cons ?_ ?_)
    | (with_reducible refine NR.mk' ?_ ?_ ?_ ?_ ?_)
    | (with_reducible refine (C.aug (by omega) (by omega)).symm)
    | (with_reducible refine (C.txt (by omega) (by omega) (by first | exact is_k3 (by assumption) | exact kk_k3 (by assumption) | assumption)).symm)
    | (with_reducible refine congrArg leafK (C.knd (by omega) (by omega)).symm)
    | (with_reducible first | refine .params ?_ ?_ | refine .row ?_ | refine .exprsL ?_ ?_ | refine .orL ?_ | refine .andL ?_ | refine .cmpL ?_ ?_ | refine .arithL ?_ | refine .termL ?_ | refine .primL ?_ | refine .index ?_ | refine .clauses ?_ | refine .list ?_ | refine .braces ?_ | refine .dictL ?_ ?_ | refine .placesL ?_ ?_ | refine .names ?_ ?_ | refine .maybe ?_ | refine .asgL ?_ ?_ | refine .blockL ?_ | refine .ifs ?_ | refine .tries ?_ | refine .triesL ?_ | refine .triesF ?_ ?_)
    | (simp only [NR.single ‹NR ln _ _›]; with_reducible refine rr_same ?_ ?_)
    | (simp only [NR.place ‹NR ln _ _›]; with_reducible refine rr_same ?_ ?_))
set_option maxHeartbeats 4000000 in
theorem gl1 (C : TA ts us N Nb d ln) {f : Nat} (h : IH ts us N Nb d ln f) (a a' : NT) (i i' : Nat) (hg : a.grp = 1) (hi' : i' = i + d) (ha : NTR ln a a') : RR N d ln (if a.stat = true then Nb else N) i (if a.adv = true then i + 1 else i) (gr ts (f + 1) a i) (gr us (f + 1) a' i') := by
  have hN := C.le.1
  have hN1 := C.le.2
  cases ha
  case' z hb => cases a
  all_goals first | (cases hb; done) | (cases hg; done) | simp only [gr, NT.stat, NT.adv, Bool.false_eq_true, ↓reduceIte]
  all_goals (repeat' first
    | (with_reducible refine rr_err (by omega) (by omega))
    | (with_reducible refine rr_pk (by omega) (by omega) fun hj => ?_)
    | (with_reducible refine rr_ok (by omega) (by omega) fun hj => ?_)
    | (with_reducible refine rr_wantB C (by omega) (by omega) (by omega) (by omega) ?_)
    | (with_reducible refine rr_wantK C (by decide) (by omega) (by omega) (by omega) (by omega) fun hk s => ?_)
    | (with_reducible refine rr_sp C (by first | exact .inl rfl | exact .inr (.inl rfl) | exact .inr (.inr (.inl rfl)) | exact .inr (.inr (.inr rfl))) (by omega) (by omega) (by omega) (by first | rfl | omega) (fun ht => ?_) ?_)
    | (with_reducible refine rr_is C 0 (by omega) (by omega) (by omega) (by omega) (fun ht => ?_) ?_)
    | (with_reducible refine rr_is C 1 (by omega) (by omega) (by omega) (by omega) (fun ht => ?_) ?_)
    | (with_reducible refine rr_k3 C (by omega) (by omega) (by omega) (by first | rfl | omega) ?_ ?_)
    | (with_reducible refine rr_kd C 1 (by omega) (by omega) (by omega) (by omega) ?_ ?_)
    | (with_reducible refine rr_same ?_ ?_)
    | (with_reducible refine rr_au C (by omega) (by omega) (by omega) (by first | rfl | omega) ?_ ?_)
    | (with_reducible refine rr_pl C (by omega) (by omega) (by omega) (by first | rfl | omega) ?_ ?_)
    | (with_reducible refine rr_kk C (by omega) (by omega) (by omega) (by first | rfl | omega) (fun ht => ?_) ?_)
    | (with_reducible refine rr_beg C (by omega) (by omega) (by omega) (by first | rfl | omega) ?_ ?_)
    | (with_reducible refine rr_pb1 N 0 (h.E _ _ _ _ (by omega) (by with_unfolding_all exact rfl) (by with_unfolding_all exact rfl) (by with_unfolding_all exact rfl) fun hj => ?_) (by omega) (by omega) (by omega) (by omega) fun n n' j j' e hj hn => ?_)
    | (with_reducible refine rr_pb1 N 1 (h.E _ _ _ _ (by omega) (by with_unfolding_all exact rfl) (by with_unfolding_all exact rfl) (by with_unfolding_all exact rfl) fun hj => ?_) (by omega) (by omega) (by omega) (by omega) fun n n' j j' e hj hn => ?_)
    | (with_reducible refine rr_pb1 Nb 0 (h.A _ _ _ _ (by omega) (by with_unfolding_all exact rfl) (by with_unfolding_all exact rfl) fun hj => ?_) (by omega) (by omega) (by omega) (by omega) fun n n' j j' e hj hn => ?_)
    | (with_reducible refine rr_pb N 0 (h.E _ _ _ _ (by omega) (by with_unfolding_all exact rfl) (by with_unfolding_all exact rfl) (by with_unfolding_all exact rfl) fun hj => ?_) (by omega) (by omega) (by omega) (by omega) fun n n' j j' e hj hn => ?_)
    | (with_reducible refine rr_pb N 1 (h.E _ _ _ _ (by omega) (by with_unfolding_all exact rfl) (by with_unfolding_all exact rfl) (by with_unfolding_all exact rfl) fun hj => ?_) (by omega) (by omega) (by omega) (by omega) fun n n' j j' e hj hn => ?_)
    | (with_reducible refine rr_pb Nb 0 (h.S _ _ _ _ (by omega) (by with_unfolding_all exact rfl) (by with_unfolding_all exact rfl) fun hj => ?_) (by omega) (by omega) (by omega) (by omega) fun n n' j j' e hj hn => ?_)
    | (with_reducible refine rr_pb1 N 0 (h.m _ _ _ (by omega)) (by omega) (by omega) (by omega) (by omega) fun n n' j j' e hj hn => ?_)
    | (with_reducible refine (h.E _ _ _ _ (by omega) (by with_unfolding_all exact rfl) (by with_unfolding_all exact rfl) (by with_unfolding_all exact rfl) fun hj => ?_).weak (by omega) (by omega))
    | (with_reducible refine (h.A _ _ _ _ (by omega) (by with_unfolding_all exact rfl) (by with_unfolding_all exact rfl) fun hj => ?_).weak (by omega) (by omega))
    | (with_reducible refine (h.S _ _ _ _ (by omega) (by with_unfolding_all exact rfl) (by with_unfolding_all exact rfl) fun hj => ?_).weak (by omega) (by omega))
    | (with_reducible assumption)
    | (with_reducible exact .z rfl)
    | (intro (hl : ln = true))
    | (with_reducible refine C.lne (by omega) (by omega) (by first | exact is_k3 (by assumption) | exact kk_k3 (by assumption) | assumption) (by assumption))
    | (with_reducible refine NR.line ?_ (by assumption))
    | (with_reducible refine NRs.hd ?_ ?_ (by assumption))
    | exact rfl
    | exact NRs.nil
    | (with_reducible refine NRs.app ?_ ?_)
    | (with_reducible refine NRs.cons ?_ ?_)
    | (with_reducible refine NR.mk' ?_ ?_ ?_ ?_ ?_)
    | (with_reducible refine (C.aug (by omega) (by omega)).symm)
    | (with_reducible refine (C.txt (by omega) (by omega) (by first | exact is_k3 (by assumption) | exact kk_k3 (by assumption) | assumption)).symm)
    | (with_reducible refine congrArg leafK (C.knd (by omega) (by omega)).symm)
    | (with_reducible first | refine .params ?_ ?_ | refine .row ?_ | refine .exprsL ?_ ?_ | refine .orL ?_ | refine .andL ?_ | refine .cmpL ?_ ?_ | refine .arithL ?_ | refine .termL ?_ | refine .primL ?_ | refine .index ?_ | refine .clauses ?_ | refine .list ?_ | refine .braces ?_ | refine .dictL ?_ ?_ | refine .placesL ?_ ?_ | refine .names ?_ ?_ | refine .maybe ?_ | refine .asgL ?_ ?_ | refine .blockL ?_ | refine .ifs ?_ | refine .tries ?_ | refine .triesL ?_ | refine .triesF ?_ ?_)
    | (simp only [NR.single ‹NR ln _ _›]; with_reducible refine rr_same ?_ ?_)
    | (simp only [NR.place ‹NR ln _ _›]; with_reducible refine rr_same ?_ ?_))
set_option maxHeartbeats 4000000 in
theorem gl2 (C : TA ts us N Nb d ln) {f : Nat} (h : IH ts us N Nb d ln f) (a a' : NT) (i i' : Nat) (hg : a.grp = 2) (hi' : i' = i + d) (ha : NTR ln a a') : RR N d ln (if a.stat = true then Nb else N) i (if a.adv = true then i + 1 else i) (gr ts (f + 1) a i) (gr us (f + 1) a' i') := by
  have hN := C.le.1
  have hN1 := C.le.2
  cases ha
  case' z hb => cases a
  all_goals first | (cases hb; done) | (cases hg; done) | simp only [gr, NT.stat, NT.adv, Bool.false_eq_true, ↓reduceIte]
  all_goals (repeat' first
    | (with_reducible refine rr_err (by omega) (by omega))
    | (with_reducible refine rr_pk (by omega) (by omega) fun hj => ?_)
    | (with_reducible refine rr_ok (by omega) (by omega) fun hj => ?_)
    | (with_reducible refine rr_wantB C (by omega) (by omega) (by omega) (by omega) ?_)
    | (with_reducible refine rr_wantK C (by decide) (by omega) (by omega) (by omega) (by omega) fun hk s => ?_)
    | (with_reducible refine rr_sp C (by first | exact .inl rfl | exact .inr (.inl rfl) | exact .inr (.inr (.inl rfl)) | exact .inr (.inr (.inr rfl))) (by omega) (by omega) (by omega) (by first | rfl | omega) (fun ht => ?_) ?_)
    | (with_reducible refine rr_is C 0 (by omega) (by omega) (by omega) (by omega) (fun ht => ?_) ?_)
    | (with_reducible refine rr_is C 1 (by omega) (by omega) (by omega) (by omega) (fun ht => ?_) ?_)
    | (with_reducible refine rr_k3 C (by omega) (by omega) (by omega) (by first | rfl | omega) ?_ ?_)
    | (with_reducible refine rr_kd C 1 (by omega) (by omega) (by omega) (by omega) ?_ ?_)
    | (with_reducible refine rr_same ?_ ?_)
    | (with_reducible refine rr_au C (by omega) (by omega) (by omega) (by first | rfl | omega) ?_ ?_)
    | (with_reducible refine rr_pl C (by omega) (by omega) (by omega) (by first | rfl | omega) ?_ ?_)
    | (with_reducible refine rr_kk C (by omega) (by omega) (by omega) (by first | rfl | omega) (fun ht => ?_) ?_)
    | (with_reducible refine rr_beg C (by omega) (by omega) (by omega) (by first | rfl | omega) ?_ ?_)
    | (with_reducible refine rr_pb1 N 0 (h.E _ _ _ _ (by omega) (by with_unfolding_all exact rfl) (by with_unfolding_all exact rfl) (by with_unfolding_all exact rfl) fun hj => ?_) (by omega) (by omega) (by omega) (by omega) fun n n' j j' e hj hn => ?_)
    | (with_reducible refine rr_pb1 N 1 (h.E _ _ _ _ (by omega) (by with_unfolding_all exact rfl) (by with_unfolding_all exact rfl) (by with_unfolding_all exact rfl) fun hj => ?_) (by omega) (by omega) (by omega) (by omega) fun n n' j j' e hj hn => ?_)
    | (with_reducible refine rr_pb1 Nb 0 (h.A _ _ _ _ (by omega) (by with_unfolding_all exact rfl) (by with_unfolding_all exact rfl) fun hj => ?_) (by omega) (by omega) (by omega) (by omega) fun n n' j j' e hj hn => ?_)
    | (with_reducible refine rr_pb N 0 (h.E _ _ _ _ (by omega) (by with_unfolding_all exact rfl) (by with_unfolding_all exact rfl) (by with_unfolding_all exact rfl) fun hj => ?_) (by omega) (by omega) (by omega) (by omega) fun n n' j j' e hj hn => ?_)
    | (with_reducible refine rr_pb N 1 (h.E _ _ _ _ (by omega) (by with_unfolding_all exact rfl) (by with_unfolding_all exact rfl) (by with_unfolding_all exact rfl) fun hj => ?_) (by omega) (by omega) (by omega) (by omega) fun n n' j j' e hj hn => ?_)
    | (with_reducible refine rr_pb Nb 0 (h.S _ _ _ _ (by omega) (by with_unfolding_all exact rfl) (by with_unfolding_all exact rfl) fun hj => ?_) (by omega) (by omega) (by omega) (by omega) fun n n' j j' e hj hn => ?_)
    | (with_reducible refine rr_pb1 N 0 (h.m _ _ _ (by omega)) (by omega) (by omega) (by omega) (by omega) fun n n' j j' e hj hn => ?_)
    | (with_reducible refine (h.E _ _ _ _ (by omega) (by with_unfolding_all exact rfl) (by with_unfolding_all exact rfl) (by with_unfolding_all exact rfl) fun hj => ?_).weak (by omega) (by omega))
    | (with_reducible refine (h.A _ _ _ _ (by omega) (by with_unfolding_all exact rfl) (by with_unfolding_all exact rfl) fun hj => ?_).weak (by omega) (by omega))
    | (with_reducible refine (h.S _ _ _ _ (by omega) (by with_unfolding_all exact rfl) (by with_unfolding_all exact rfl) fun hj => ?_).weak (by omega) (by omega))
    | (with_reducible assumption)
    | (with_reducible exact .z rfl)
    | (intro (hl : ln = true))
    | (with_reducible refine C.lne (by omega) (by omega) (by first | exact is_k3 (by assumption) | exact kk_k3 (by assumption) | assumption) (by assumption))
    | (with_reducible refine NR.line ?_ (by assumption))
    | (with_reducible refine NRs.hd ?_ ?_ (by assumption))
    | exact rfl
    | exact NRs.nil
    | (with_reducible refine NRs.app ?_ ?_)
    | (with_reducible refine NRs.cons ?_ ?_)
    | (with_reducible refine NR.mk' ?_ ?_ ?_ ?_ ?_)
    | (with_reducible refine (C.aug (by omega) (by omega)).symm)
    | (with_reducible refine (C.txt (by omega) (by omega) (by first | exact is_k3 (by assumption) | exact kk_k3 (by assumption) | assumption)).symm)
    | (with_reducible refine congrArg leafK (C.knd (by omega) (by omega)).symm)
    | (with_reducible first | refine .params ?_ ?_ | refine .row ?_ | refine .exprsL ?_ ?_ | refine .orL ?_ | refine .andL ?_ | refine .cmpL ?_ ?_ | refine .arithL ?_ | refine .termL ?_ | refine .primL ?_ | refine .index ?_ | refine .clauses ?_ | refine .list ?_ | refine .braces ?_ | refine .dictL ?_ ?_ | refine .placesL ?_ ?_ | refine .names ?_ ?_ | refine .maybe ?_ | refine .asgL ?_ ?_ | refine .blockL ?_ | refine .ifs ?_ | refine .tries ?_ | refine .triesL ?_ | refine .triesF ?_ ?_)
    | (simp only [NR.single ‹NR ln _ _›]; with_reducible refine rr_same ?_ ?_)
    | (simp only [NR.place ‹NR ln _ _›]; with_reducible refine rr_same ?_ ?_))
set_option maxHeartbeats 4000000 in
theorem gl3 (C : TA ts us N Nb d ln) {f : Nat} (h : IH ts us N Nb d ln f) (a a' : NT) (i i' : Nat) (hg : a.grp = 3) (hi' : i' = i + d) (ha : NTR ln a a') : RR N d ln (if a.stat = true then Nb else N) i (if a.adv = true then i + 1 else i) (gr ts (f + 1) a i) (gr us (f + 1) a' i') := by
  have hN := C.le.1
  have hN1 := C.le.2
  cases ha
  case' z hb => cases a
  all_goals first | (cases hb; done) | (cases hg; done) | simp only [gr, NT.stat, NT.adv, Bool.false_eq_true, ↓reduceIte]
  all_goals (repeat' first
    | (with_reducible refine rr_err (by omega) (by omega))
    | (with_reducible refine rr_pk (by omega) (by omega) fun hj => ?_)
    | (with_reducible refine rr_ok (by omega) (by omega) fun hj => ?_)
    | (with_reducible refine rr_wantB C (by omega) (by omega) (by omega) (by omega) ?_)
    | (with_reducible refine rr_wantK C (by decide) (by omega) (by omega) (by omega) (by omega) fun hk s => ?_)
    | (with_reducible refine rr_sp C (by first | exact .inl rfl | exact .inr (.inl rfl) | exact .inr (.inr (.inl rfl)) | exact .inr (.inr (.inr rfl))) (by omega) (by omega) (by omega) (by first | rfl | omega) (fun ht => ?_) ?_)
    | (with_reducible refine rr_is C 0 (by omega) (by omega) (by omega) (by omega) (fun ht => ?_) ?_)
    | (with_reducible refine rr_is C 1 (by omega) (by omega) (by omega) (by omega) (fun ht => ?_) ?_)
    | (with_reducible refine rr_k3 C (by omega) (by omega) (by omega) (by first | rfl | omega) ?_ ?_)
    | (with_reducible refine rr_kd C 1 (by omega) (by omega) (by omega) (by omega) ?_ ?_)
    | (with_reducible refine rr_same ?_ ?_)
    | (with_reducible refine rr_au C (by omega) (by omega) (by omega) (by first | rfl | omega) ?_ ?_)
    | (with_reducible refine rr_pl C (by omega) (by omega) (by omega) (by first | rfl | omega) ?_ ?_)
    | (with_reducible refine rr_kk C (by omega) (by omega) (by omega) (by first | rfl | omega) (fun ht => ?_) ?_)
    | (with_reducible refine rr_beg C (by omega) (by omega) (by omega) (by first | rfl | omega) ?_ ?_)
    | (with_reducible refine rr_pb1 N 0 (h.E _ _ _ _ (by omega) (by with_unfolding_all exact rfl) (by with_unfolding_all exact rfl) (by with_unfolding_all exact rfl) fun hj => ?_) (by omega) (by omega) (by omega) (by omega) fun n n' j j' e hj hn => ?_)
    | (with_reducible refine rr_pb1 N 1 (h.E _ _ _ _ (by omega) (by with_unfolding_all exact rfl) (by with_unfolding_all exact rfl) (by with_unfolding_all exact rfl) fun hj => ?_) (by omega) (by omega) (by omega) (by omega) fun n n' j j' e hj hn => ?_)
    | (with_reducible refine rr_pb1 Nb 0 (h.A _ _ _ _ (by omega) (by with_unfolding_all exact rfl) (by with_unfolding_all exact rfl) fun hj => ?_) (by omega) (by omega) (by omega) (by omega) fun n n' j j' e hj hn => ?_)
    | (with_reducible refine rr_pb N 0 (h.E _ _ _ _ (by omega) (by with_unfolding_all exact rfl) (by with_unfolding_all exact rfl) (by with_unfolding_all exact rfl) fun hj => ?_) (by omega) (by omega) (by omega) (by omega) fun n n' j j' e hj hn => ?_)
    | (with_reducible refine rr_pb N 1 (h.E _ _ _ _ (by omega) (by with_unfolding_all exact rfl) (by with_unfolding_all exact rfl) (by with_unfolding_all exact rfl) fun hj => ?_) (by omega) (by omega) (by omega) (by omega) fun n n' j j' e hj hn => ?_)
    | (with_reducible refine rr_pb Nb 0 (h.S _ _ _ _ (by omega) (by with_unfolding_all exact rfl) (by with_unfolding_all exact rfl) fun hj => ?_) (by omega) (by omega) (by omega) (by omega) fun n n' j j' e hj hn => ?_)
    | (with_reducible refine rr_pb1 N 0 (h.m _ _ _ (by omega)) (by omega) (by omega) (by omega) (by omega) fun n n' j j' e hj hn => ?_)
    | (with_reducible refine (h.E _ _ _ _ (by omega) (by with_unfolding_all exact rfl) (by with_unfolding_all exact rfl) (by with_unfolding_all exact rfl) fun hj => ?_).weak (by omega) (by omega))
    | (with_reducible refine (h.A _ _ _ _ (by omega) (by with_unfolding_all exact rfl) (by with_unfolding_all exact rfl) fun hj => ?_).weak (by omega) (by omega))
    | (with_reducible refine (h.S _ _ _ _ (by omega) (by with_unfolding_all exact rfl) (by with_unfolding_all exact rfl) fun hj => ?_).weak (by omega) (by omega))
    | (with_reducible assumption)
    | (with_reducible exact .z rfl)
    | (intro (hl : ln = true))
    | (with_reducible refine C.lne (by omega) (by omega) (by first | exact is_k3 (by assumption) | exact kk_k3 (by assumption) | assumption) (by assumption))
    | (with_reducible refine NR.line ?_ (by assumption))
    | (with_reducible refine NRs.hd ?_ ?_ (by assumption))
    | exact rfl
    | exact NRs.nil
    | (with_reducible refine NRs.app ?_ ?_)
    | (with_reducible refine NRs.cons ?_ ?_)
    | (with_reducible refine NR.mk' ?_ ?_ ?_ ?_ ?_)
    | (with_reducible refine (C.aug (by omega) (by omega)).symm)
    | (with_reducible refine (C.txt (by omega) (by omega) (by first | exact is_k3 (by assumption) | exact kk_k3 (by assumption) | assumption)).symm)
    | (with_reducible refine congrArg leafK (C.knd (by omega) (by omega)).symm)
    | (with_reducible first | refine .params ?_ ?_ | refine .row ?_ | refine .exprsL ?_ ?_ | refine .orL ?_ | refine .andL ?_ | refine .cmpL ?_ ?_ | refine .arithL ?_ | refine .termL ?_ | refine .primL ?_ | refine .index ?_ | refine .clauses ?_ | refine .list ?_ | refine .braces ?_ | refine .dictL ?_ ?_ | refine .placesL ?_ ?_ | refine .names ?_ ?_ | refine .maybe ?_ | refine .asgL ?_ ?_ | refine .blockL ?_ | refine .ifs ?_ | refine .tries ?_ | refine .triesL ?_ | refine .triesF ?_ ?_)
    | (simp only [NR.single ‹NR ln _ _›]; with_reducible refine rr_same ?_ ?_)
    | (simp only [NR.place ‹NR ln _ _›]; with_reducible refine rr_same ?_ ?_))
set_option maxHeartbeats 4000000 in
theorem gl4 (C : TA ts us N Nb d ln) {f : Nat} (h : IH ts us N Nb d ln f) (a a' : NT) (i i' : Nat) (hg : a.grp = 4) (hi' : i' = i + d) (ha : NTR ln a a') : RR N d ln (if a.stat = true then Nb else N) i (if a.adv = true then i + 1 else i) (gr ts (f + 1) a i) (gr us (f + 1) a' i') := by
  have hN := C.le.1
  have hN1 := C.le.2
  cases ha
  case' z hb => cases a
  all_goals first | (cases hb; done) | (cases hg; done) | simp only [gr, NT.stat, NT.adv, Bool.false_eq_true, ↓reduceIte]
  all_goals (repeat' first
    | (with_reducible refine rr_err (by omega) (by omega))
    | (with_reducible refine rr_pk (by omega) (by omega) fun hj => ?_)
    | (with_reducible refine rr_ok (by omega) (by omega) fun hj => ?_)
    | (with_reducible refine rr_wantB C (by omega) (by omega) (by omega) (by omega) ?_)
    | (with_reducible refine rr_wantK C (by decide) (by omega) (by omega) (by omega) (by omega) fun hk s => ?_)
    | (with_reducible refine rr_sp C (by first | exact .inl rfl | exact .inr (.inl rfl) | exact .inr (.inr (.inl rfl)) | exact .inr (.inr (.inr rfl))) (by omega) (by omega) (by omega) (by first | rfl | omega) (fun ht => ?_) ?_)
    | (with_reducible refine rr_is C 0 (by omega) (by omega) (by omega) (by omega) (fun ht => ?_) ?_)
    | (with_reducible refine rr_is C 1 (by omega) (by omega) (by omega) (by omega) (fun ht => ?_) ?_)
    | (with_reducible refine rr_k3 C (by omega) (by omega) (by omega) (by first | rfl | omega) ?_ ?_)
    | (with_reducible refine rr_kd C 1 (by omega) (by omega) (by omega) (by omega) ?_ ?_)
    | (with_reducible refine rr_same ?_ ?_)
    | (with_reducible refine rr_au C (by omega) (by omega) (by omega) (by first | rfl | omega) ?_ ?_)
    | (with_reducible refine rr_pl C (by omega) (by omega) (by omega) (by first | rfl | omega) ?_ ?_)
    | (with_reducible refine rr_kk C (by omega) (by omega) (by omega) (by first | rfl | omega) (fun ht => ?_) ?_)
    | (with_reducible refine rr_beg C (by omega) (by omega) (by omega) (by first | rfl | omega) ?_ ?_)
    | (with_reducible refine rr_pb1 N 0 (h.E _ _ _ _ (by omega) (by with_unfolding_all exact rfl) (by with_unfolding_all exact rfl) (by with_unfolding_all exact rfl) fun hj => ?_) (by omega) (by omega) (by omega) (by omega) fun n n' j j' e hj hn => ?_)
    | (with_reducible refine rr_pb1 N 1 (h.E _ _ _ _ (by omega) (by with_unfolding_all exact rfl) (by with_unfolding_all exact rfl) (by with_unfolding_all exact rfl) fun hj => ?_) (by omega) (by omega) (by omega) (by omega) fun n n' j j' e hj hn => ?_)
    | (with_reducible refine rr_pb1 Nb 0 (h.A _ _ _ _ (by omega) (by with_unfolding_all exact rfl) (by with_unfolding_all exact rfl) fun hj => ?_) (by omega) (by omega) (by omega) (by omega) fun n n' j j' e hj hn => ?_)
    | (with_reducible refine rr_pb N 0 (h.E _ _ _ _ (by omega) (by with_unfolding_all exact rfl) (by with_unfolding_all exact rfl) (by with_unfolding_all exact rfl) fun hj => ?_) (by omega) (by omega) (by omega) (by omega) fun n n' j j' e hj hn => ?_)
    | (with_reducible refine rr_pb N 1 (h.E _ _ _ _ (by omega) (by with_unfolding_all exact rfl) (by with_unfolding_all exact rfl) (by with_unfolding_all exact rfl) fun hj => ?_) (by omega) (by omega) (by omega) (by omega) fun n n' j j' e hj hn => ?_)
    | (with_reducible refine rr_pb Nb 0 (h.S _ _ _ _ (by omega) (by with_unfolding_all exact rfl) (by with_unfolding_all exact rfl) fun hj => ?_) (by omega) (by omega) (by omega) (by omega) fun n n' j j' e hj hn => ?_)
    | (with_reducible refine rr_pb1 N 0 (h.m _ _ _ (by omega)) (by omega) (by omega) (by omega) (by omega) fun n n' j j' e hj hn => ?_)
    | (with_reducible refine (h.E _ _ _ _ (by omega) (by with_unfolding_all exact rfl) (by with_unfolding_all exact rfl) (by with_unfolding_all exact rfl) fun hj => ?_).weak (by omega) (by omega))
    | (with_reducible refine (h.A _ _ _ _ (by omega) (by with_unfolding_all exact rfl) (by with_unfolding_all exact rfl) fun hj => ?_).weak (by omega) (by omega))
    | (with_reducible refine (h.S _ _ _ _ (by omega) (by with_unfolding_all exact rfl) (by with_unfolding_all exact rfl) fun hj => ?_).weak (by omega) (by omega))
    | (with_reducible assumption)
    | (with_reducible exact .z rfl)
    | (intro (hl : ln = true))
    | (with_reducible refine C.lne (by omega) (by omega) (by first | exact is_k3 (by assumption) | exact kk_k3 (by assumption) | assumption) (by assumption))
    | (with_reducible refine NR.line ?_ (by assumption))
    | (with_reducible refine NRs.hd ?_ ?_ (by assumption))
    | exact rfl
    | exact NRs.nil
    | (with_reducible refine NRs.app ?_ ?_)
    | (with_reducible refine NRs.cons ?_ ?_)
    | (with_reducible refine NR.mk' ?_ ?_ ?_ ?_ ?_)
    | (with_reducible refine (C.aug (by omega) (by omega)).symm)
    | (with_reducible refine (C.txt (by omega) (by omega) (by first | exact is_k3 (by assumption) | exact kk_k3 (by assumption) | assumption)).symm)
    | (with_reducible refine congrArg leafK (C.knd (by omega) (by omega)).symm)
    | (with_reducible first | refine .params ?_ ?_ | refine .row ?_ | refine .exprsL ?_ ?_ | refine .orL ?_ | refine .andL ?_ | refine .cmpL ?_ ?_ | refine .arithL ?_ | refine .termL ?_ | refine .primL ?_ | refine .index ?_ | refine .clauses ?_ | refine .list ?_ | refine .braces ?_ | refine .dictL ?_ ?_ | refine .placesL ?_ ?_ | refine .names ?_ ?_ | refine .maybe ?_ | refine .asgL ?_ ?_ | refine .blockL ?_ | refine .ifs ?_ | refine .tries ?_ | refine .triesL ?_ | refine .triesF ?_ ?_)
    | (simp only [NR.single ‹NR ln _ _›]; with_reducible refine rr_same ?_ ?_)
    | (simp only [NR.place ‹NR ln _ _›]; with_reducible refine rr_same ?_ ?_))
set_option maxHeartbeats 4000000 in
theorem gl5 (C : TA ts us N Nb d ln) {f : Nat} (h : IH ts us N Nb d ln f) (a a' : NT) (i i' : Nat) (hg : a.grp = 5) (hi' : i' = i + d) (ha : NTR ln a a') : RR N d ln (if a.stat = true then Nb else N) i (if a.adv = true then i + 1 else i) (gr ts (f + 1) a i) (gr us (f + 1) a' i') := by
  have hN := C.le.1
  have hN1 := C.le.2
  cases ha
  case z hb => cases a <;> first | (cases hb; done) | (cases hg; done)
  case cmpL n n' acc acc' hn hs =>
    simp only [gr, NT.stat, NT.adv, Bool.false_eq_true, ↓reduceIte]
    refine rr_op C hi' rfl (rr_pk (Nat.le_refl _) hi' fun hj => ?_) fun hk3 op j j' e hj => rr_pb1 N 0 (h.E _ _ _ _ e rfl rfl rfl fun _ => .z rfl) (Nat.le_refl _) (Nat.le_refl _) (by omega) (by omega) fun m m' k k' e' hk hm => (h.E _ _ _ _ e' rfl rfl rfl fun hkk => .cmpL hn (hs.app (.one (.mk (fun hl => C.lne (by omega) hi' hk3 hl) (.one hm))))).weak (Nat.le_refl _) (by omega)
    rw [hs.emp]
    split
    · exact hn
    · exact .mk (fun hl => hn.line hl) (.cons hn hs)
  case asgL l l' acc acc' hl hs =>
    simp only [gr, NT.stat, NT.adv, Bool.false_eq_true, ↓reduceIte]
    refine rr_is C 0 hi' (Nat.le_refl _) (Nat.le_refl _) (Nat.le_refl _) (fun ht => ?_) (rr_pk (Nat.le_refl _) hi' fun hj => .mk hl hs)
    rcases hs.last with ⟨e1, e2⟩ | ⟨n, n', e1, e2, hn⟩
    · rw [e1]; exact trivial
    · rw [e1, e2]
      simp only [hn.place]
      refine rr_same (rr_pb1 N 0 (h.E _ _ _ _ (by omega) rfl rfl rfl fun _ => .z rfl) (by omega) (Nat.le_refl _) (by omega) (by omega) fun m m' k k' e' hk hm => (h.E _ _ _ _ e' rfl rfl rfl fun _ => .asgL hl (hs.app (.one hm))).weak (Nat.le_refl _) (by omega)) (rr_err (by omega) hi')
  case triesF l l' acc acc' hl hs =>
    simp only [gr, NT.stat, NT.adv, Bool.false_eq_true, ↓reduceIte, hs.len]
    refine rr_sp C (.inr (.inr (.inr rfl))) hi' (Nat.le_refl _) (Nat.le_refl _) rfl (fun ht => rr_wantB C (by omega) (by omega) (by omega) (by omega) (rr_pb1 Nb 0 (h.A _ _ _ _ (by omega) rfl rfl fun _ => .z rfl) (by omega) (by omega) (by omega) (by omega) fun m m' k k' e' hk hm => rr_pk (by omega) e' fun hj => .mk hl (hs.app (.one (.mk (fun hl => C.lne (by omega) hi' (is_k3 ht) hl) (.one hm)))))) (rr_same (rr_err (Nat.le_refl _) hi') (rr_pk (Nat.le_refl _) hi' fun hj => .mk hl hs))
  all_goals (cases hg; done)
theorem gr_rel (C : TA ts us N Nb d ln) : ∀ f a a' i i', i' = i + d → NTR ln a a' → RR N d ln (if a.stat = true then Nb else N) i (if a.adv = true then i + 1 else i) (gr ts f a i) (gr us f a' i') := by
  have hN := C.le.1
  have hN1 := C.le.2
  intro f
  induction f with
  | zero => intros; exact trivial
  | succ f ih =>
  have ihE : ∀ a a' i i', i' = i + d → a.stat = false → a.adv = false → a.isTop = false → (i < N → NTR ln a a') → RR N d ln N i i (gr ts f a i) (gr us f a' i') := fun a a' i i' e h1 h2 h3 h => by
    rcases Nat.lt_or_ge i N with g | g
    · have := ih a a' i i' e (h g)
      rw [h1, h2] at this
      simpa using this
    · have := ih a a i i' e (NTR.refl (fun acc e => by subst e; cases h3))
      rw [h1, h2] at this
      exact this.far g g
  have ihA : ∀ a a' i i', i' = i + d → a.stat = true → a.adv = true → (i < Nb → NTR ln a a') → RR N d ln Nb i (i + 1) (gr ts f a i) (gr us f a' i') := fun a a' i i' e h1 h2 h => by
    rcases Nat.lt_or_ge i Nb with g | g
    · have := ih a a' i i' e (h g)
      rw [h1, h2] at this
      simpa using this
    · have := ih a a i i' e (NTR.refl (fun acc e => by subst e; cases h1))
      rw [h1, h2, if_pos rfl] at this
      simp only [Bool.false_eq_true, if_false, if_true] at this
      exact this.far (by omega) (by omega)
  have ihS : ∀ a a' i i', i' = i + d → a.stat = true → a.adv = false → (i < Nb → NTR ln a a') → RR N d ln Nb i i (gr ts f a i) (gr us f a' i') := fun a a' i i' e h1 h2 h => by
    rcases Nat.lt_or_ge i Nb with g | g
    · have := ih a a' i i' e (h g)
      rw [h1, h2] at this
      simpa using this
    · have := ih a a i i' e (NTR.refl (fun acc e => by subst e; cases h1))
      rw [h1, h2, if_pos rfl] at this
      simp only [Bool.false_eq_true, if_false, if_true] at this
      exact this.far (by omega) g
  have h : IH ts us N Nb d ln f := ⟨ihE, ihA, ihS, fun all j j' e => by
    cases all
    · exact ihE .expr .expr j j' e rfl rfl rfl fun _ => .z rfl
    · exact ihE .exprs .exprs j j' e rfl rfl rfl fun _ => .z rfl⟩
  intro a a' i i' hi' ha
  have hgr : a.grp = 99 ∨ a.grp = 0 ∨ a.grp = 1 ∨ a.grp = 2 ∨ a.grp = 3 ∨ a.grp = 4 ∨ a.grp = 5 := by
    cases a <;> first | exact .inl rfl | exact .inr (by simp [NT.grp])
  rcases hgr with e | e | e | e | e | e | e
  · cases a
    case top => cases ha; rename_i hb; cases hb
    all_goals (cases e)
  · exact gl0 C h a a' i i' e hi' ha
  · exact gl1 C h a a' i i' e hi' ha
  · exact gl2 C h a a' i i' e hi' ha
  · exact gl3 C h a a' i i' e hi' ha
  · exact gl4 C h a a' i i' e hi' ha
  · exact gl5 C h a a' i i' e hi' ha
end
end Can
end Go.Proofs.Ytnkfdkfmdeibfaa
end
