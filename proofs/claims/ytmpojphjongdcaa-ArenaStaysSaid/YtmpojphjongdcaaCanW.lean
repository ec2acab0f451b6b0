/- Canonical runs: the table of a program's functions. Over any program. -/
import Derived.Test.YtmpojphjongdcaaCanV
namespace Go.Proofs.Ytmpojphjongdcaa
namespace Can
open Go Go.RowKit
set_option linter.unusedSimpArgs false
set_option linter.unusedVariables false
variable {P : Program} {B : Nat}
noncomputable def tbl (P : Program) : Tbl := ⟨resFunc P (fun N ops => resD P N ops), resLoop P (fun N ops => resD P N ops), fun _ => false, ⟨fun _ _ _ => none, fun _ _ _ => none⟩⟩
noncomputable def rL (P : Program) (key : Nat × Nat) : List Nat × RCode × RCode := (resLoop P (fun N ops => resD P N ops) key).getD ⟨[], .skip, .skip⟩
noncomputable def rF (P : Program) (f : Nat) : RFunc := (resFunc P (fun N ops => resD P N ops) f).getD ⟨0, [], .skip⟩
theorem wpF_rF {f : Nat} (h : (resFunc P (fun N ops => resD P N ops) f).isSome = true) {args : List Value} {H : CH} {Q : Value → CH → Prop} (k : WpR (tbl P) (rF P f).body (fun t => args.getD t undef) H (FunK (rF P f).res Q)) : WpF (tbl P) f args H Q := by
  refine wpF_in rfl ?_ k
  unfold rF
  show resFunc P (fun N ops => resD P N ops) f = some ((resFunc P (fun N ops => resD P N ops) f).getD ⟨0, [], .skip⟩)
  cases hr : resFunc P (fun N ops => resD P N ops) f with
  | none => rw [hr] at h; cases h
  | some r => rfl
theorem wpY_rL {key : Nat × Nat} (h : (resLoop P (fun N ops => resD P N ops) key).isSome = true) {l : Nat} {args : List Value} {H : CH} {Q : Value → CH → Prop} {pend : Option (Option Nat)} {fr : Fr} (ho : H.ob l = .loop .ready pend fr key) (hl : args.length = (rL P key).1.length)
    (k : WpR (tbl P) (rL P key).2.1 (putPs fr (rL P key).1 args) H (RoundK (tbl P) l (rL P key).2.2 Q)) : WpY (tbl P) l args H Q := by
  refine wpY_in (ps := (rL P key).1) (asg := (rL P key).2.1) (body := (rL P key).2.2) ho ?_ hl k
  unfold rL
  show resLoop P (fun N ops => resD P N ops) key = some ((resLoop P (fun N ops => resD P N ops) key).getD ⟨[], .skip, .skip⟩)
  cases hr : resLoop P (fun N ops => resD P N ops) key with
  | none => rw [hr] at h; cases h
  | some r => rfl
theorem tbl_ok : TblOk P B (tbl P) :=
  ⟨fun f rf h => resFunc_ok (fun N ops d h => resD_ok h) h, fun key ps asg body h => resLoop_ok (fun N ops d h => resD_ok h) h, ⟨fun f args H v H' h => (by cases h), fun l args H v H' h => (by cases h)⟩⟩
/-- A call that answers v and leaves the memory so: its rule. -/
theorem wpF_iff {T : Tbl} {f : FuncId} {args : List Value} {H H' : CH} {v : Value} {Q : Value → CH → Prop} (h : WpF T f args H fun u K => u = v ∧ K = H') : WpF T f args H Q ↔ Q v H' := by
  constructor
  · rintro ⟨m, u, K, e2, q⟩
    obtain ⟨n, _, _, e1, rfl, rfl⟩ := h
    have h1 := evFn_mono (T := T) (Nat.le_max_left m n) _ _ _ _ e2
    have h2 := evFn_mono (T := T) (Nat.le_max_right m n) _ _ _ _ e1
    rw [h1] at h2
    cases h2
    exact q
  · exact fun k => h.mono fun u K ⟨a, b⟩ => by subst a; subst b; exact k
end Can
end Go.Proofs.Ytmpojphjongdcaa
