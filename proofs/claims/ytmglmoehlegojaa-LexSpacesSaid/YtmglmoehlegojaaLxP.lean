/- Lex: plain laws of the rows. -/
import Derived.Test.YtmglmoehlegojaaLxX
namespace Go.Proofs.Ytmglmoehlegojaa
namespace Can
open Go Go.RowKit
set_option linter.unusedSimpArgs false
set_option linter.unusedVariables false
theorem splitN_ne : ∀ {l : List UInt8}, splitN l ≠ []
  | [] => by simp [splitN]
  | c :: r => by
    simp only [splitN]
    split
    · simp
    · split <;> simp
theorem splitN_row {u : List UInt8} (hu : Nl u) : ∀ {t : List UInt8}, (∀ x ∈ t, x.toNat ≠ 10) → splitN (t ++ u) = t :: (match u with | [] => [] | _ :: r => splitN r)
  | [], _ => by
    rcases hu with rfl | ⟨r, rfl⟩
    · rfl
    · simp only [List.nil_append, splitN]
      rw [if_pos (by decide)]
  | c :: t, h => by
    simp only [List.cons_append, splitN]
    rw [if_neg (h c (by simp)), splitN_row hu (fun x hx => h x (by simp [hx]))]
def rowN (l : List UInt8) : List UInt8 := l.takeWhile fun x => decide (x.toNat ≠ 10)
def rowU (l : List UInt8) : List UInt8 := l.dropWhile fun x => decide (x.toNat ≠ 10)
theorem rowN_app {l : List UInt8} : l = rowN l ++ rowU l := (List.takeWhile_append_dropWhile).symm
theorem rowN_no : ∀ {l : List UInt8}, ∀ x ∈ rowN l, x.toNat ≠ 10
  | [], x, h => by cases h
  | c :: r, x, h => by
    unfold rowN at h
    rw [List.takeWhile_cons] at h
    split at h
    · rename_i hc
      rcases List.mem_cons.1 h with rfl | h
      · simpa using hc
      · exact rowN_no x h
    · cases h
theorem rowU_nl : ∀ {l : List UInt8}, Nl (rowU l)
  | [] => .inl rfl
  | c :: r => by
    unfold rowU
    rw [List.dropWhile_cons]
    split
    · exact rowU_nl
    · rename_i hc
      refine .inr ⟨r, ?_⟩
      have : c.toNat = 10 := by simpa using hc
      rw [show c = 10 from UInt8.toNat_inj.1 this]
theorem last_drop {p : Nat → Bool} {a : Nat} (hp : p a = false) : ∀ {l : List Nat}, l.getLast? = some a → (l.dropWhile p).getLast? = some a
  | [], h => by cases h
  | [b], h => by
    simp at h; subst h
    simp [List.dropWhile_cons, hp]
  | b :: c :: l, h => by
    rw [List.dropWhile_cons]
    split
    · exact last_drop hp (by simpa [List.getLast?_cons_cons] using h)
    · exact h
theorem indT_last {line n : Nat} {st : List Nat} (h : st.getLast? = some 0) : (indT line st n).2.getLast? = some 0 := by
  unfold indT
  split
  · cases st with
    | nil => cases h
    | cons a st => simpa [List.getLast?_cons_cons] using h
  · exact last_drop (by simp) h
theorem rowT_ok {line d d' : Nat} {t : List UInt8} {st st' : List Nat} {x : List Tok} (h : rowT line t d st = .ok (x, d', st')) (hz : st.getLast? = some 0) : x.length + st'.length ≤ st.length + t.length + 3 ∧ d' ≤ d + t.length ∧ st'.getLast? = some 0 := by
  unfold rowT at h
  split at h
  · cases h; refine ⟨by simp; omega, by omega, hz⟩
  · split at h
    · cases h
    · split at h
      · cases h
      · rename_i ts d1 ht
        obtain ⟨g1, g2⟩ := toks_len ht
        have g3 := @indT_len line (blkN t) st
        cases h
        refine ⟨?_, g2, ?_⟩
        · simp only [List.length_append]
          split <;> split <;> simp only [List.length_nil, List.length_cons] <;> omega
        · split
          · exact indT_last hz
          · exact hz
def mp2 (o : List Tok) : Except (Nat × Nat) (List Tok × List Nat) → Except (Nat × Nat) (List Tok × List Nat)
  | .ok y => .ok (o ++ y.1, y.2)
  | .error e => .error e
theorem mp2_mp2 {a b : List Tok} {r : Except (Nat × Nat) (List Tok × List Nat)} : mp2 a (mp2 b r) = mp2 (a ++ b) r := by
  cases r <;> simp [mp2]
theorem rowsT_cons {line d : Nat} {t : List UInt8} {ts : List (List UInt8)} {st : List Nat} : rowsT line (t :: ts) d st = match rowT line t d st with | .error e => .error (line, e) | .ok (x, d', st') => mp2 x (rowsT (line + 1) ts d' st') := by
  simp only [rowsT]
  cases rowT line t d st with
  | error e => rfl
  | ok y =>
    obtain ⟨x, d', st'⟩ := y
    simp only
    cases rowsT (line + 1) ts d' st' <;> rfl
/-- What is known ahead of a row. -/
structure LxI (src : List UInt8) (s : RS) (st : List Nat) : Prop where
  op : s.opn = st.reverse
  z : st.getLast? = some 0
  e : s.err = 0
  pl : s.pos ≤ src.length
  bo : s.out.length + s.opn.length ≤ s.pos + 3 * s.line + 1
  bd : s.dep ≤ s.pos
  bl : s.line ≤ s.pos + 1
  rows : rowsT 1 (splitN src) 0 [0] = mp2 s.out (rowsT s.line (splitN (src.drop s.pos)) s.dep st)
  cnt : (splitN src).length + 1 = s.line + (splitN (src.drop s.pos)).length
theorem LxI.init {src : List UInt8} : LxI src ⟨0, 1, 0, [0], [], 0, 0⟩ [0] := by
  refine ⟨rfl, rfl, rfl, by simp, by simp, by simp, by simp, ?_, by simp [Nat.add_comm]⟩
  simp only [List.drop_zero]
  cases rowsT 1 (splitN src) 0 [0] <;> rfl
/-- The row that is met. -/
theorem LxI.row {src : List UInt8} {s : RS} {st : List Nat} (h : LxI src s st) : ∃ t u, src.drop s.pos = t ++ u ∧ Nl u ∧ (∀ x ∈ t, x.toNat ≠ 10) ∧ src.length = s.pos + t.length + u.length :=
  ⟨rowN (src.drop s.pos), rowU (src.drop s.pos), rowN_app, rowU_nl, rowN_no, by
    have h1 := congrArg List.length (rowN_app (l := src.drop s.pos))
    have h2 := h.pl
    simp only [List.length_drop, List.length_append] at h1
    omega⟩
theorem LxI.err {src : List UInt8} {s : RS} {st : List Nat} (h : LxI src s st) (hl : src.length ≤ 20000) {t u : List UInt8} (htu : src.drop s.pos = t ++ u) (hu : Nl u) (hn : ∀ x ∈ t, x.toNat ≠ 10) {e : Nat} (hr : rowT s.line t s.dep st = .error e) : lexT src = .error (s.line, e) := by
  unfold lexT
  rw [if_neg (by omega), h.rows, htu, splitN_row hu hn, rowsT_cons, hr]
  rfl
theorem LxI.fin {src : List UInt8} {s : RS} {st : List Nat} (h : LxI src s st) (hl : src.length ≤ 20000) {t : List UInt8} (htu : src.drop s.pos = t ++ []) (hn : ∀ x ∈ t, x.toNat ≠ 10) {x : List Tok} {d' : Nat} {st' : List Nat} (hr : rowT s.line t s.dep st = .ok (x, d', st')) : lexT src = .ok (s.out ++ x ++ endT s.line st') := by
  have hc := h.cnt
  rw [htu, splitN_row (.inl rfl) hn] at hc
  simp only [List.length_cons, List.length_nil] at hc
  unfold lexT
  rw [if_neg (by omega), h.rows, htu, splitN_row (.inl rfl) hn, rowsT_cons, hr, show (splitN src).length = s.line by omega]
  simp [rowsT, mp2]
theorem LxI.step {src : List UInt8} {s : RS} {st : List Nat} (h : LxI src s st) {t r : List UInt8} (htu : src.drop s.pos = t ++ 10 :: r) (hn : ∀ x ∈ t, x.toNat ≠ 10) (hlen : src.length = s.pos + t.length + (r.length + 1)) {x : List Tok} {d' : Nat} {st' : List Nat} (hr : rowT s.line t s.dep st = .ok (x, d', st')) :
    LxI src { s with pos := s.pos + t.length + 1, line := s.line + 1, dep := d', opn := st'.reverse, out := s.out ++ x } st' := by
  obtain ⟨g1, g2, g3⟩ := rowT_ok hr h.z
  have hop := congrArg List.length h.op
  have hbo := h.bo
  have hbd := h.bd
  have hbl := h.bl
  have hc := h.cnt
  have hd : src.drop (s.pos + t.length + 1) = r := by
    rw [Nat.add_assoc, ← List.drop_drop, htu]
    simp
  simp only [List.length_reverse] at hop
  rw [htu, splitN_row (.inr ⟨r, rfl⟩) hn] at hc
  simp only [List.length_cons] at hc
  refine ⟨rfl, g3, h.e, by show s.pos + t.length + 1 ≤ _; omega, by simp only [List.length_append, List.length_reverse]; omega, by show d' ≤ s.pos + t.length + 1; omega, by show s.line + 1 ≤ s.pos + t.length + 1 + 1; omega, ?_, ?_⟩
  · show _ = mp2 (s.out ++ x) (rowsT (s.line + 1) (splitN (src.drop (s.pos + t.length + 1))) d' st')
    rw [hd, h.rows, htu, splitN_row (.inr ⟨r, rfl⟩) hn, rowsT_cons, hr, ← mp2_mp2]
  · show _ = s.line + 1 + (splitN (src.drop (s.pos + t.length + 1))).length
    rw [hd]; omega
/-- A text's bytes as a row of integers. -/
def u8i (src : List UInt8) : List Int := src.map fun c => (c.toNat : Int)
def b2sV (H : CH) : Value → Option Value
  | .slice none 0 0 => some (.string .empty)
  | .slice (some ⟨l, o, none⟩) n _ => match H.ob l with
    | .cells cs _ _ => if o + n ≤ cs.length then (byteList ((cs.drop o).take n)).map fun bs => .string ⟨bs.toArray⟩ else none
    | _ => none
  | .slice (some ⟨_, _, some _⟩) 0 _ => some (.string .empty)
  | _ => none
theorem lop_b2s {H : CH} {ev : Operand → Value} {x : Operand} : lop H ev (.b2s x) = b2sV H (ev x) := rfl
theorem byteList_ints : ∀ {src : List UInt8}, byteList (src.map fun c => Value.int .u8 (c.toNat : Int)) = some src
  | [] => rfl
  | c :: r => by
    rw [List.map_cons]
    simp only [byteList]
    rw [byteList_ints]
    simp
theorem b2s_ok {H : CH} {q : Option Addr} {c : Nat} {src : List UInt8} (h : SlAt 1 (CInt .u8) H q c (u8i src)) : b2sV H (.slice q src.length c) = some (.string (str src)) := by
  rcases h with ⟨h, rfl, rfl | rfl | rfl⟩ | ⟨l, o, os, e, kd, rfl, hl, hc, hm, hob, hol, hR⟩
  · have : src = [] := by simpa [u8i] using h
    subst this; rfl
  · have : src = [] := by simpa [u8i] using h
    subst this; rfl
  · have : src = [] := by simpa [u8i] using h
    subst this; rfl
  · simp only [u8i, List.length_map, Nat.mul_one] at hol hR
    simp only [b2sV, hob]
    rw [if_pos hol]
    have : (os.drop o).take src.length = src.map fun c => Value.int .u8 (c.toNat : Int) := by
      apply List.ext_getElem
      · simp; omega
      · intro i h1 h2
        have h3 := (hR i (by simpa using h2)).1
        simp only [List.length_map] at h2
        have h7 : ((os.drop (o + i)).take 1)[0]? = some (.int .u8 (src[i].toNat : Int)) := by rw [h3]; simp
        rw [List.getElem?_take_of_lt (by omega), List.getElem?_drop, Nat.add_zero] at h7
        simp only [List.getElem_take, List.getElem_drop, List.getElem_map]
        exact (List.getElem?_eq_some_iff.1 h7).2
    rw [this, byteList_ints]
    rfl
end Can
end Go.Proofs.Ytmglmoehlegojaa
