/- Canonical runs: a table with functions of which it is told what they do. Over any program. -/
import Derived.Test.YtopmheekeooodaaCanPu
namespace Go.Proofs.Ytopmheekeooodaa
namespace Can
open Go Go.RowKit
set_option linter.unusedSimpArgs false
set_option linter.unusedVariables false
variable {P : Program}
/-- A call that answers, whatever names the memory has. -/
def CallC (P : Program) (B : Nat) (f : FuncId) (args : List Value) (H : CH) (v : Value) (H' : CH) : Prop := callable P f = true ∧ ∀ β w (args' : List Value), Sim P B β H w → VRs β args args' →
  CallsIn Fence.wide 0 P f args'.toArray w fun e w' => ∃ v' β', e = .returned v' ∧ VR β' v v' ∧ Sim P B β' H' w' ∧ Evo β w β' w'
abbrev Spec := FuncId → List Value → CH → Value → CH → Prop
open Classical in
noncomputable def tell (P : Program) (S : Spec) (f : FuncId) (args : List Value) (H : CH) : Option (Value × CH) :=
  if h : ∃ r : Value × CH, S f args H r.1 r.2 ∧ ∀ B, CallC P B f args H r.1 r.2 then some h.choose else none
noncomputable def tblS (P : Program) (L : List FuncId) (G : FuncId → List Value → Option Value) (LS : List FuncId) (S : Spec) : Tbl :=
  ⟨resFunc P (fun N ops => resD P N ops), resLoop P (fun N ops => resD P N ops), fun f => LS.elem f || L.elem f, ⟨fun f args H => if LS.elem f then tell P S f args H else (G f args).map fun v => (v, H), fun _ _ _ => none⟩⟩
theorem tblS_ok {B : Nat} {L : List FuncId} {G : FuncId → List Value → Option Value} {LS : List FuncId} {S : Spec} (hG : ∀ f args v, G f args = some v → PureOk P f args v) : TblOk P B (tblS P L G LS S) := by
  refine ⟨(tblG_ok (B := B) (L := L) hG).fn, (tblG_ok (B := B) (L := L) hG).loop, ⟨fun f args H v H' h => ?_, fun l args H v H' h => (by cases h)⟩⟩
  have h' : (if LS.elem f then tell P S f args H else (G f args).map fun v => (v, H)) = some (v, H') := h
  split at h'
  · unfold tell at h'
    split at h'
    · rename_i hx
      have hc := hx.choose_spec.2 B
      rw [Option.some.inj h'] at hc
      exact .inl ⟨hc.1, hc.2⟩
    · cases h'
  · exact (tblG_ok (B := B) (L := L) hG).ext.1 f args H v H' h'
theorem wpF_tell {L : List FuncId} {G : FuncId → List Value → Option Value} {LS : List FuncId} {S : Spec} {f : FuncId} (hf : LS.elem f = true) {args : List Value} {H : CH} {Q : Value → CH → Prop} (h : ∃ v H', S f args H v H' ∧ ∀ B, CallC P B f args H v H') (hQ : ∀ v H', S f args H v H' → Q v H') : WpF (tblS P L G LS S) f args H Q := by
  obtain ⟨v, H', h1, h2⟩ := h
  have hx : ∃ r : Value × CH, S f args H r.1 r.2 ∧ ∀ B, CallC P B f args H r.1 r.2 := ⟨(v, H'), h1, h2⟩
  refine ⟨1, hx.choose.1, hx.choose.2, ?_, hQ _ _ hx.choose_spec.1⟩
  simp only [evFn, evH]
  have he : (tblS P L G LS S).ext f = true := by show (LS.elem f || L.elem f) = true; rw [hf]; rfl
  rw [if_pos he]
  show (if LS.elem f then tell P S f args H else (G f args).map fun v => (v, H)) = _
  rw [if_pos hf]
  unfold tell
  rw [dif_pos hx]
theorem wpF_GS {L : List FuncId} {G : FuncId → List Value → Option Value} {LS : List FuncId} {S : Spec} {f : FuncId} {args : List Value} {v : Value} (hs : LS.elem f = false) (hf : L.elem f = true) (hv : G f args = some v) {H : CH} {Q : Value → CH → Prop} : WpF (tblS P L G LS S) f args H Q ↔ Q v H := by
  have hev : ∀ n, evFn (tblS P L G LS S) (n + 1) f args H = some (v, H) := fun n => by
    simp only [evFn, evH]
    have he : (tblS P L G LS S).ext f = true := by show (LS.elem f || L.elem f) = true; rw [hf, hs]; rfl
    rw [if_pos he]
    show (if LS.elem f then tell P S f args H else (G f args).map fun v => (v, H)) = _
    rw [if_neg (by rw [hs]; decide), hv]; rfl
  constructor
  · rintro ⟨n, u, H', h1, h2⟩
    cases n with
    | zero => simp [evFn, evH] at h1
    | succ n => rw [hev n] at h1; cases h1; exact h2
  · exact fun h => ⟨1, v, H, hev 0, h⟩
theorem tbS_fn {L : List FuncId} {G : FuncId → List Value → Option Value} {LS : List FuncId} {S : Spec} {f : Nat} (h : (resFunc P (fun N ops => resD P N ops) f).isSome = true) : (tblS P L G LS S).fn f = some (rF P f) := by
  unfold rF
  show resFunc P (fun N ops => resD P N ops) f = some ((resFunc P (fun N ops => resD P N ops) f).getD ⟨0, [], .skip⟩)
  cases hr : resFunc P (fun N ops => resD P N ops) f with
  | none => rw [hr] at h; cases h
  | some r => rfl
theorem wpF_rS {L : List FuncId} {G : FuncId → List Value → Option Value} {LS : List FuncId} {S : Spec} {f : Nat} (he : (LS.elem f || L.elem f) = false) (h : (resFunc P (fun N ops => resD P N ops) f).isSome = true) {args : List Value} {H : CH} {Q : Value → CH → Prop} (k : WpR (tblS P L G LS S) (rF P f).body (fun t => args.getD t undef) H (FunK (rF P f).res Q)) : WpF (tblS P L G LS S) f args H Q :=
  wpF_in he (tbS_fn h) k
/-- What is shown of a run may be told. -/
theorem tell_wp {T : Tbl} (hT : ∀ B, TblOk P B T) {f : FuncId} {args : List Value} {H : CH} {Q : Value → CH → Prop} (hc : callable P f = true) (h : WpF T f args H Q) : ∃ v H', Q v H' ∧ ∀ B, CallC P B f args H v H' := by
  obtain ⟨n, v, H', h1, h2⟩ := h
  exact ⟨v, H', h2, fun B => ⟨hc, fun β w args' hS ha => callsIn_wide.2 (calls_of_ev (hT B) h1 hS ha hc)⟩⟩
end Can
end Go.Proofs.Ytopmheekeooodaa
