/- The reference's number and Parse, by the machine. -/
import Derived.Test.YtooajpojikkkdaaDoorParseC
set_option linter.unusedSimpArgs false
set_option linter.unusedVariables false
set_option maxRecDepth 1000000
set_option maxHeartbeats 400000
namespace Go.Proofs.YtooajpojikkkdaaDoor
open Go Go.Pm Go.RowKit
/-- A number of at most so many digits more, and the size. -/
def numF : Nat → List UInt8 → Int → Nat → Int × Nat
  | 0, _, n, k => (n, k)
  | _ + 1, [], n, k => (n, k)
  | r + 1, b :: l, n, k => if 48 ≤ b.toNat ∧ b.toNat ≤ 57 then numF r l (10 * n + ((b.toNat : Int) - 48)) (k + 1) else (n, k)
def numR (s : List UInt8) : Int × Nat := numF 3 s 0 0
theorem numF_facts : ∀ (r : Nat) (l : List UInt8) (n : Int) (k : Nat), 0 ≤ n → (0 ≤ (numF r l n k).1 ∧ (numF r l n k).1 < (n + 1) * 10 ^ r) ∧ k ≤ (numF r l n k).2 ∧ (numF r l n k).2 ≤ k + l.length
  | 0, l, n, k, h => by simp [numF]; omega
  | r + 1, [], n, k, h => by
    have hp : (0 : Int) < 10 ^ (r + 1) := Int.pow_pos (by omega)
    simp only [numF, List.length_nil]
    refine ⟨⟨h, ?_⟩, Nat.le_refl _, Nat.le_refl _⟩
    have := Int.mul_le_mul_of_nonneg_left (show (1 : Int) ≤ 10 ^ (r + 1) by omega) (show 0 ≤ n + 1 by omega)
    omega
  | r + 1, b :: l, n, k, h => by
    rw [numF]
    split
    · rename_i hb
      obtain ⟨⟨a1, a2⟩, a3, a4⟩ := numF_facts r l (10 * n + ((b.toNat : Int) - 48)) (k + 1) (by omega)
      refine ⟨⟨a1, ?_⟩, by omega, by simp only [List.length_cons]; omega⟩
      have hp : (0 : Int) ≤ 10 ^ r := Int.le_of_lt (Int.pow_pos (by omega))
      have := Int.mul_le_mul_of_nonneg_right (show 10 * n + ((b.toNat : Int) - 48) + 1 ≤ 10 * (n + 1) by omega) hp
      rw [Int.pow_succ, show (n + 1) * (10 ^ r * 10) = 10 * (n + 1) * 10 ^ r by rw [Int.mul_comm (10 ^ r) 10, ← Int.mul_assoc, Int.mul_comm (n + 1) 10]]
      omega
    · have hp : (0 : Int) < 10 ^ (r + 1) := Int.pow_pos (by omega)
      refine ⟨⟨h, ?_⟩, Nat.le_refl _, Nat.le_add_right _ _⟩
      have := Int.mul_le_mul_of_nonneg_left (show (1 : Int) ≤ 10 ^ (r + 1) by omega) (show 0 ≤ n + 1 by omega)
      simp only []; omega
theorem numR_facts (s : List UInt8) : (0 ≤ (numR s).1 ∧ (numR s).1 ≤ 999) ∧ (numR s).2 ≤ s.length := by
  obtain ⟨⟨a1, a2⟩, a3, a4⟩ := numF_facts 3 s 0 0 (by omega)
  exact ⟨⟨a1, by simp at a2; unfold numR; omega⟩, by simpa [numR] using a4⟩
theorem u8_sub {b : UInt8} (h : 48 ≤ b.toNat ∧ b.toNat ≤ 57) : IntKind.u8.wrap ((b.toNat : Int) - 48) = (b.toNat : Int) - 48 := by
  rcases (by omega : b.toNat = 48 ∨ b.toNat = 49 ∨ b.toNat = 50 ∨ b.toNat = 51 ∨ b.toNat = 52 ∨ b.toNat = 53 ∨ b.toNat = 54 ∨ b.toNat = 55 ∨ b.toNat = 56 ∨ b.toNat = 57) with e | e | e | e | e | e | e | e | e | e <;> rw [e] <;> rfl
theorem loop53 {F : List Fr} {P : SV × List Blk → Prop} {rs : List ResultVar} {H : List Blk} (s : List UInt8) : ∀ (r k : Nat) (n : Int), k + r = 3 → k ≤ s.length → 0 ≤ n → n < 10 ^ k →
    X Y T0 rs F (.exit 0) ⟨mk 36 .J [(2, .i (numF r (s.drop k) n k).1), (3, .i ((numF r (s.drop k) n k).2 : Nat))], H⟩ P →
    X Y T0 rs F (.loop (loopN Tryd.f53 0)) ⟨mk 36 .J [(0, .str s), (2, .i n), (3, .i (k : Nat))], H⟩ P := by
  intro r
  induction r with
  | zero =>
    intro k n e hk h0 h1 hx
    have e1 : k = 3 := by omega
    subst e1
    apply X_loop_of
    · simp only [loopN, Tryd.f53, loopsOf, List.nil_append, List.append_nil, List.cons_append, List.getD_cons_succ, List.getD_cons_zero]; rfl
    rw [numF] at hx
    by_cases hl : (3 : Int) < (s.length : Int)
    · simp [-Int.not_lt, -Int.not_le, hl]
      refine X_keep hx ?_
      simp
    · simp [-Int.not_lt, -Int.not_le, hl]
      refine X_keep hx ?_
      simp
  | succ r ih =>
    intro k n e hk h0 h1 hx
    have q3 := next_i (m := k) (by omega)
    have k3 : (k : Int) < 3 := by omega
    have hn : n < 100 := by
      rcases (by omega : k = 0 ∨ k = 1 ∨ k = 2) with rfl | rfl | rfl <;> simp at h1 <;> omega
    apply X_loop_of
    · simp only [loopN, Tryd.f53, loopsOf, List.nil_append, List.append_nil, List.cons_append, List.getD_cons_succ, List.getD_cons_zero]; rfl
    by_cases hl : k < s.length
    · have hl' : (k : Int) < (s.length : Int) := by omega
      have hb : s[k]? = some (s.getD k 0) := by simp [hl]
      have e1 : s.drop k = s.getD k 0 :: s.drop (k + 1) := by rw [List.drop_eq_getElem_cons hl]; simp [hl]
      rw [e1] at hx
      generalize s.getD k 0 = b at *
      rw [numF] at hx
      by_cases h48 : 48 ≤ b.toNat
      · have h48' : (48 : Int) ≤ (b.toNat : Int) := by omega
        by_cases h57 : b.toNat ≤ 57
        · have h57' : (b.toNat : Int) ≤ 57 := by omega
          rw [if_pos ⟨h48, h57⟩] at hx
          have q4 := u8_sub ⟨h48, h57⟩
          have q5 : IntKind.i64.wrap (10 * n) = 10 * n := wrap64 (by omega) (by omega)
          have q6 : IntKind.i64.wrap ((b.toNat : Int) - 48) = (b.toNat : Int) - 48 := wrap64 (by omega) (by omega)
          have q7 : IntKind.i64.wrap (10 * n + ((b.toNat : Int) - 48)) = 10 * n + ((b.toNat : Int) - 48) := wrap64 (by omega) (by omega)
          have hpow : 10 * n + ((b.toNat : Int) - 48) < 10 ^ (k + 1) := by
            rw [Int.pow_succ]; omega
          simp [-Int.natCast_add, -Int.not_lt, -Int.not_le, -getElem?_pos, hl', k3, hb, h48', h57', q3, q4, q5, q6, q7]
          refine X_keep (ih (k + 1) _ (by omega) (by omega) (by omega) hpow hx) ?_
          simp [-Int.natCast_add]
        · have h57' : ¬ (b.toNat : Int) ≤ 57 := by omega
          rw [if_neg (by omega)] at hx
          simp [-Int.natCast_add, -Int.not_lt, -Int.not_le, -getElem?_pos, hl', k3, hb, h48', h57']
          refine X_keep hx ?_
          simp
      · have h48' : ¬ (48 : Int) ≤ (b.toNat : Int) := by omega
        rw [if_neg (by omega)] at hx
        simp [-Int.natCast_add, -Int.not_lt, -Int.not_le, -getElem?_pos, hl', k3, hb, h48']
        refine X_keep hx ?_
        simp
    · have hl' : ¬ (k : Int) < (s.length : Int) := by omega
      rw [List.drop_eq_nil_of_le (by omega), numF] at hx
      simp [-Int.natCast_add, -Int.not_lt, -Int.not_le, hl']
      refine X_keep hx ?_
      simp
theorem x53 (s : List UInt8) : XFn Y T0 Tryd.f53 [.pv (.str s)] [] (Is (.tuple [.i (numR s).1, .i ((numR s).2 : Nat)])) := by
  unfold XFn Tryd.f53
  rw [enter_1 _ (by decide)]
  simp
  refine X_keep (loop53 s 3 0 0 (by omega) (by omega) (by omega) (by decide) ?_) ?_
  · simp [numR]
  · simp
def F53 : List SV → Option SV
  | [.pv (.str s)] => some (.tuple [.i (numR s).1, .i ((numR s).2 : Nat)])
  | _ => none
theorem meets53 (W0 : World) : OkAt W0 53 F53 := meets_fn env tok_nil mixed Tryd.func53 (by kernel_rfl) (by kernel_rfl) fun args r h => by
  unfold F53 at h
  split at h
  · cases h; exact x53 _
  · cases h
end Go.Proofs.YtooajpojikkkdaaDoor
