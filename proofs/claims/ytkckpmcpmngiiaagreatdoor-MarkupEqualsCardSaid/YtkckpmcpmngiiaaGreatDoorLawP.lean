/- A run keeps the number of slots. -/
import Derived.Test.YtkckpmcpmngiiaaGreatDoorPmX
set_option linter.unusedSimpArgs false
set_option linter.unusedVariables false
set_option maxRecDepth 1000000
namespace Go.Proofs.YtkckpmcpmngiiaaGreatDoor
open Go Go.Pm
section
variable {Y : TypeId → Option Ty} {T : FuncId → Option Pm.Spec}
theorem put_len9 (tm : List SV) (d : Option Tmp) (v : SV) : (put tm d v).length = tm.length := by cases d <;> simp [put]
theorem aops_len9 {pl : PL} {ops : List Oper} : ∀ (rest : List Oper) {s s' : St}, aops Y T pl ops rest s = some s' → s'.tm.length = s.tm.length
  | [], s, s', h => by simp only [aops, Option.some.injEq] at h; rw [h]
  | o :: r, s, s', h => by
    simp only [aops] at h
    split at h
    · split at h
      · have := aops_len9 r h
        simpa [put_len9] using this
      · cases h
    · have := aops_len9 r h
      simpa [put_len9] using this
    · cases h
theorem aregN_len9 {ops : List Oper} {d : Bool} {s s' : St} (h : aregN Y T ops d s = some s') : s'.tm.length = s.tm.length := by
  unfold aregN at h
  cases e1 : held ops d with
  | true => rw [e1] at h; simp only [cond_true] at h; simpa using aops_len9 _ h
  | false =>
    rw [e1] at h
    simp only [cond_false] at h
    cases e2 : watching ops d with
    | true =>
      rw [e2] at h
      simp only [cond_true] at h
      unfold aregW at h
      split at h
      · exact aops_len9 _ h
      · cases h
    | false => rw [e2] at h; simp only [cond_false] at h; exact aops_len9 _ h
theorem atail_len9 {c : Cus} {s s' : St} (h : atail Y c s = some s') : s'.tm.length = s.tm.length := by
  unfold atail at h
  split at h
  · split at h
    · split at h
      · unfold atailR at h
        split at h
        · split at h
          · split at h
            · cases h; simp
            · cases h
          · cases h
        · cases h
      · cases h
    · cases h
  · cases h
theorem areg_len9 {ops : List Oper} {d : Bool} {s s' : St} (h : areg Y T ops d s = some s') : s'.tm.length = s.tm.length := by
  unfold areg at h
  split at h
  · exact aregN_len9 h
  · split at h
    · rename_i s1 h1
      exact (atail_len9 h).trans (aregN_len9 h1)
    · cases h
def outSt9 : Out → St
  | .norm s => s
  | .exit _ s => s
  | .ret s => s
theorem acode_len9 : ∀ (n : Nat) (c : Code) {s : St} {o : Out}, acode Y T n c s = some o → (outSt9 o).tm.length = s.tm.length
  | 0, c, s, o, h => by simp [acode] at h
  | n + 1, c, s, o, h => by
    cases c <;> simp only [acode] at h <;> try (cases h; done)
    all_goals first
      | (cases h; rfl)
      | exact acode_len9 n _ h
      | skip
    all_goals try (
      split at h
      · rename_i s' h1
        first
          | (cases h; exact areg_len9 h1)
          | (have i1 := acode_len9 n _ h1
             have i2 := acode_len9 n _ h
             exact i2.trans i1)
          | (split at h
             · exact acode_len9 n _ h
             · exact acode_len9 n _ h)
          | skip
      · first
          | (cases h; done)
          | exact acode_len9 n _ h)
    all_goals (
      split at h
      · rename_i i s' h1
        have i1 := acode_len9 n _ h1
        split at h <;> (cases h; exact i1)
      · exact acode_len9 n _ h)
end
end Go.Proofs.YtkckpmcpmngiiaaGreatDoor
