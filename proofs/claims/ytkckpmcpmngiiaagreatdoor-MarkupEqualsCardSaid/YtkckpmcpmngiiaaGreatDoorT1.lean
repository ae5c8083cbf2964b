/- Trees of elements: their values; copies of a tree. -/
import Derived.Test.YtkckpmcpmngiiaaGreatDoorPmX
import Derived.Test.YtkckpmcpmngiiaaGreatDoorPmTys
import Derived.Test.YtkckpmcpmngiiaaGreatDoorPmCut
/- Trees of elements in plain Lean: as values, copied, cut short, compared, checked. -/
set_option linter.unusedSimpArgs false
set_option linter.unusedVariables false
set_option maxRecDepth 1000000
namespace Go.Proofs.YtkckpmcpmngiiaaGreatDoor
open Go Go.Pm
abbrev Bs := List UInt8
/-- An element. -/
inductive Nd where
  | mk (name : Bs) (attrs : List (Bs × Bs)) (text : Bs) (kids : List Nd)
def Nd.name : Nd → Bs | .mk n _ _ _ => n
def Nd.attrs : Nd → List (Bs × Bs) | .mk _ a _ _ => a
def Nd.text : Nd → Bs | .mk _ _ t _ => t
def Nd.kids : Nd → List Nd | .mk _ _ _ k => k
mutual
def Nd.count : Nd → Nat
  | .mk _ _ _ ks => 1 + countL ks
def countL : List Nd → Nat
  | [] => 0
  | k :: r => k.count + countL r
end
mutual
def Nd.depth : Nd → Nat
  | .mk _ _ _ ks => 1 + depthL ks
def depthL : List Nd → Nat
  | [] => 0
  | k :: r => max k.depth (depthL r)
end
/-- Attributes as a value. -/
def atRow (a : Bs × Bs) : List PV := [.str a.1, .str a.2]
def slN (s : Nat) : List (List PV) → PV
  | [] => .nilSlice
  | e :: r => .slice s (e :: r)
mutual
def Nd.enc : Nd → List PV
  | .mk n a t ks => [.str n, slN 2 (a.map atRow), .str t, slN 4 (encL ks)]
def encL : List Nd → List (List PV)
  | [] => []
  | k :: r => k.enc :: encL r
end
def unAt : List (List PV) → Option (List (Bs × Bs))
  | [] => some []
  | [.str a, .str b] :: r => (unAt r).map ((a, b) :: ·)
  | _ => none
def atP : PV → Option (List (Bs × Bs))
  | .nilSlice => some []
  | .empS => some []
  | .slice 2 es => unAt es
  | _ => none
mutual
def ndP : List PV → Option Nd
  | [.str n, a, .str t, k] => match atP a, kidP k with
    | some l, some ks => some (.mk n l t ks)
    | _, _ => none
  | _ => none
def kidP : PV → Option (List Nd)
  | .nilSlice => some []
  | .empS => some []
  | .slice 4 es => rowsP es
  | _ => none
def rowsP : List (List PV) → Option (List Nd)
  | [] => some []
  | e :: r => match ndP e, rowsP r with
    | some n, some l => some (n :: l)
    | _, _ => none
end
theorem unAt_rows : ∀ l : List (Bs × Bs), unAt (l.map atRow) = some l
  | [] => rfl
  | (a, b) :: r => by
    show (unAt (r.map atRow)).map ((a, b) :: ·) = _
    rw [unAt_rows r]; rfl
theorem unAt_eq : ∀ {es : List (List PV)} {l : List (Bs × Bs)}, unAt es = some l → es = l.map atRow
  | [], l, h => by simp [unAt] at h; subst h; rfl
  | e :: r, l, h => by
    unfold unAt at h
    split at h
    · rename_i h0; cases h0
    · rename_i a b r' h0
      cases h0
      cases hr : unAt r with
      | none => simp [hr] at h
      | some l' => simp [hr] at h; subst h; rw [unAt_eq hr]; rfl
    · cases h
theorem atP_slN (l : List (Bs × Bs)) : atP (slN 2 (l.map atRow)) = some l := by
  cases l with
  | nil => rfl
  | cons a r => exact unAt_rows (a :: r)
theorem atP_or {p : PV} {l : List (Bs × Bs)} (h : atP p = some l) : (l = [] ∧ (p = .nilSlice ∨ p = .empS)) ∨ p = .slice 2 (l.map atRow) := by
  unfold atP at h
  split at h
  · cases h; exact .inl ⟨rfl, .inl rfl⟩
  · cases h; exact .inl ⟨rfl, .inr rfl⟩
  · exact .inr (by rw [unAt_eq h])
  · cases h
mutual
theorem ndP_enc : ∀ n : Nd, ndP n.enc = some n
  | .mk n a t ks => by
    simp only [Nd.enc, ndP, atP_slN, kidP_enc ks]
theorem kidP_enc : ∀ ks : List Nd, kidP (slN 4 (encL ks)) = some ks
  | [] => by simp only [encL, slN, kidP]
  | k :: r => by simp only [encL, slN, kidP, rowsP, ndP_enc k, rowsP_enc r]
theorem rowsP_enc : ∀ ks : List Nd, rowsP (encL ks) = some ks
  | [] => by simp only [encL, rowsP]
  | k :: r => by simp only [encL, rowsP, ndP_enc k, rowsP_enc r]
end
/-- An element's value. -/
theorem ndP_or {cs : List PV} {n : Nd} (h : ndP cs = some n) : ∃ a k, cs = [.str n.name, a, .str n.text, k] ∧ atP a = some n.attrs ∧ kidP k = some n.kids := by
  unfold ndP at h
  split at h
  · rename_i nm a t k
    split at h
    · rename_i l ks ha hk
      cases h
      exact ⟨a, k, rfl, ha, hk⟩
    · cases h
  · cases h
theorem kidP_or {p : PV} {l : List Nd} (h : kidP p = some l) : (l = [] ∧ (p = .nilSlice ∨ p = .empS)) ∨ ∃ es, p = .slice 4 es ∧ rowsP es = some l := by
  unfold kidP at h
  split at h
  · cases h; exact .inl ⟨rfl, .inl rfl⟩
  · cases h; exact .inl ⟨rfl, .inr rfl⟩
  · exact .inr ⟨_, rfl, h⟩
  · cases h
theorem rowsP_len : ∀ {es : List (List PV)} {l : List Nd}, rowsP es = some l → es.length = l.length
  | [], l, h => by simp [rowsP] at h; subst h; rfl
  | e :: r, l, h => by
    unfold rowsP at h
    split at h
    · rename_i n l' hn hr
      cases h
      simp [rowsP_len hr]
    · cases h
theorem rowsP_at : ∀ {es : List (List PV)} {l : List Nd} {i : Nat} {n : Nd}, rowsP es = some l → l[i]? = some n → ∃ e, es[i]? = some e ∧ ndP e = some n
  | [], l, i, n, h, hi => by simp [rowsP] at h; subst h; simp at hi
  | e :: r, l, i, n, h, hi => by
    unfold rowsP at h
    split at h
    · rename_i m l' hm hr
      cases h
      cases i with
      | zero => simp at hi; subst hi; exact ⟨e, rfl, hm⟩
      | succ i => simp at hi; obtain ⟨e', h1, h2⟩ := rowsP_at hr hi; exact ⟨e', by simpa using h1, h2⟩
    · cases h
end Go.Proofs.YtkckpmcpmngiiaaGreatDoor
/- Bytes, names and character data, by the machine. -/
set_option linter.unusedSimpArgs false
set_option linter.unusedVariables false
set_option maxRecDepth 1000000
set_option maxHeartbeats 400000
namespace Go.Proofs.YtkckpmcpmngiiaaGreatDoor
open Go Go.Pm Go.RowKit
theorem beqZ (a b : Int) : (a == b) = decide (a = b) := by by_cases h : a = b <;> simp [h]
theorem bneZ (a b : Int) : (a != b) = !decide (a = b) := by by_cases h : a = b <;> simp [h]
abbrev OkAt (W0 : World) (g : Nat) (F : List SV → Option SV) : Prop := Enterable Tryz.prog g ∧ Meets Tryz.prog W0 g (specFn (.pure false F))
/-- Of two contracts one. -/
theorem OkAt.or {W0 : World} {g : Nat} {F G K : List SV → Option SV} (hF : OkAt W0 g F) (hG : OkAt W0 g G) (h : ∀ as1 r, K as1 = some r → F as1 = some r ∨ G as1 = some r) : OkAt W0 g K := ⟨hF.1, fun C args vs r' H' hK I J hr => by
  have h1 : specFn (.pure false F) args C.H = some (r', H') ∨ specFn (.pure false G) args C.H = some (r', H') := by
    simp only [specFn] at hK ⊢
    split at hK
    · rename_i as1 has
      split at hK
      · rename_i r hFr
        rcases h as1 r hFr with h | h
        · refine .inl ?_
          simp only [h]; exact hK
        · refine .inr ?_
          simp only [h]; exact hK
      · cases hK
    · cases hK
  rcases h1 with h1 | h1
  · exact hF.2 C args vs r' H' h1 I J hr
  · exact hG.2 C args vs r' H' h1 I J hr⟩
/-- Of many contracts one. -/
theorem OkAt.all {W0 : World} {g : Nat} {F : Nat → List SV → Option SV} {K : List SV → Option SV} (hF : ∀ n, OkAt W0 g (F n)) (h : ∀ as1 r, K as1 = some r → ∃ n, F n as1 = some r) : OkAt W0 g K := ⟨(hF 0).1, fun C args vs r' H' hK I J hr => by
  have h1 : ∃ n, specFn (.pure false (F n)) args C.H = some (r', H') := by
    simp only [specFn] at hK ⊢
    split at hK
    · rename_i as1 has
      split at hK
      · rename_i r hFr
        obtain ⟨n, h⟩ := h as1 r hFr
        exact ⟨n, by simp only [h]; exact hK⟩
      · cases hK
    · cases hK
  obtain ⟨n, h1⟩ := h1
  exact (hF n).2 C args vs r' H' h1 I J hr⟩
noncomputable abbrev T0 : FuncId → Option Pm.Spec := tab []
theorem next_i {m : Nat} (h : m < 1000000000) : IntKind.i64.wrap ((m : Int) + 1) = ((m + 1 : Nat) : Int) := by
  rw [show (m : Int) + 1 = ((m + 1 : Nat) : Int) by omega]; exact wrap64 (by omega) (by omega)
abbrev u8 (n : Int) : SV := .int .u8 n
def bF (p : Int → Bool) : List SV → Option SV
  | [.pv (.int .u8 n)] => if 0 ≤ n ∧ n ≤ 255 then some (.bool (p n)) else none
  | _ => none
theorem of_bF {p : Int → Bool} {args : List SV} {r : SV} {Q : Prop} (h : bF p args = some r) (k : ∀ n, 0 ≤ n ∧ n ≤ 255 → args = [u8 n] → r = .bool (p n) → Q) : Q := by
  unfold bF at h
  split at h
  · split at h
    · rename_i hc; cases h; exact k _ hc rfl rfl
    · cases h
  · cases h
def begZ (n : Int) : Bool := decide (n = 95 ∨ (97 ≤ n ∧ n ≤ 122) ∨ (65 ≤ n ∧ n ≤ 90))
def inZ (n : Int) : Bool := begZ n || decide ((48 ≤ n ∧ n ≤ 57) ∨ n = 45 ∨ n = 46)
def perZ (n : Int) : Bool := decide (n = 9 ∨ n = 10 ∨ (32 ≤ n ∧ n ≠ 127))
def blaZ (n : Int) : Bool := decide (n = 32 ∨ n = 9 ∨ n = 10)
theorem x44 (n : Int) (h : 0 ≤ n ∧ n ≤ 255) : XFn Y T0 Tryz.f44 [u8 n] [] (Is (.bool (begZ n))) := by
  unfold XFn Tryz.f44
  rw [enter_1 _ (by decide)]
  simp [beqZ, bneZ]
  grind [begZ]
theorem meets44 (W0 : World) : OkAt W0 44 (bF begZ) := meets_fn env tok_nil mixed Tryz.func44 (by kernel_rfl) (by kernel_rfl) fun args r h => by
  refine of_bF h fun n hn e1 e2 => ?_
  subst e1; subst e2; exact x44 n hn
theorem x46 (n : Int) (h : 0 ≤ n ∧ n ≤ 255) : XFn Y T0 Tryz.f46 [u8 n] [] (Is (.bool (begZ n))) := by
  unfold XFn Tryz.f46
  rw [enter_1 _ (by decide)]
  simp [beqZ, bneZ]
  grind [begZ]
theorem meets46 (W0 : World) : OkAt W0 46 (bF begZ) := meets_fn env tok_nil mixed Tryz.func46 (by kernel_rfl) (by kernel_rfl) fun args r h => by
  refine of_bF h fun n hn e1 e2 => ?_
  subst e1; subst e2; exact x46 n hn
noncomputable def T45 : FuncId → Option Pm.Spec := tab [(44, .pure false (bF begZ))]
theorem T45_eq (g : Nat) : T45 g = tab [(44, .pure false (bF begZ))] g := rfl
theorem x45 (n : Int) (h : 0 ≤ n ∧ n ≤ 255) : XFn Y T45 Tryz.f45 [u8 n] [] (Is (.bool (inZ n))) := by
  unfold XFn Tryz.f45
  rw [enter_1 _ (by decide)]
  have hb : bF begZ [u8 n] = some (.bool (begZ n)) := by simp only [bF]; rw [if_pos h]
  simp [T45_eq, hb, beqZ, bneZ]
  grind [inZ]
theorem meets45 (W0 : World) : OkAt W0 45 (bF inZ) := meets_fn env (tok_cons (meets44 W0) tok_nil) mixed Tryz.func45 (by kernel_rfl) (by kernel_rfl) fun args r h => by
  refine of_bF h fun n hn e1 e2 => ?_
  subst e1; subst e2; exact x45 n hn
noncomputable def T47 : FuncId → Option Pm.Spec := tab [(46, .pure false (bF begZ))]
theorem T47_eq (g : Nat) : T47 g = tab [(46, .pure false (bF begZ))] g := rfl
theorem x47 (n : Int) (h : 0 ≤ n ∧ n ≤ 255) : XFn Y T47 Tryz.f47 [u8 n] [] (Is (.bool (inZ n))) := by
  unfold XFn Tryz.f47
  rw [enter_1 _ (by decide)]
  have hb : bF begZ [u8 n] = some (.bool (begZ n)) := by simp only [bF]; rw [if_pos h]
  simp [T47_eq, hb, beqZ, bneZ]
  grind [inZ]
theorem meets47 (W0 : World) : OkAt W0 47 (bF inZ) := meets_fn env (tok_cons (meets46 W0) tok_nil) mixed Tryz.func47 (by kernel_rfl) (by kernel_rfl) fun args r h => by
  refine of_bF h fun n hn e1 e2 => ?_
  subst e1; subst e2; exact x47 n hn
theorem x36 (n : Int) (h : 0 ≤ n ∧ n ≤ 255) : XFn Y T0 Tryz.f36 [u8 n] [] (Is (.bool (perZ n))) := by
  unfold XFn Tryz.f36
  rw [enter_1 _ (by decide)]
  simp [beqZ, bneZ]
  grind [perZ]
theorem meets36 (W0 : World) : OkAt W0 36 (bF perZ) := meets_fn env tok_nil mixed Tryz.func36 (by kernel_rfl) (by kernel_rfl) fun args r h => by
  refine of_bF h fun n hn e1 e2 => ?_
  subst e1; subst e2; exact x36 n hn
theorem x83 (n : Int) (h : 0 ≤ n ∧ n ≤ 255) : XFn Y T0 Tryz.f83 [u8 n] [] (Is (.bool (perZ n))) := by
  unfold XFn Tryz.f83
  rw [enter_1 _ (by decide)]
  simp [beqZ, bneZ]
  grind [perZ]
theorem meets83 (W0 : World) : OkAt W0 83 (bF perZ) := meets_fn env tok_nil mixed Tryz.func83 (by kernel_rfl) (by kernel_rfl) fun args r h => by
  refine of_bF h fun n hn e1 e2 => ?_
  subst e1; subst e2; exact x83 n hn
theorem x73 (n : Int) (h : 0 ≤ n ∧ n ≤ 255) : XFn Y T0 Tryz.f73 [u8 n] [] (Is (.bool (blaZ n))) := by
  unfold XFn Tryz.f73
  rw [enter_1 _ (by decide)]
  simp [beqZ, bneZ]
  grind [blaZ]
theorem meets73 (W0 : World) : OkAt W0 73 (bF blaZ) := meets_fn env tok_nil mixed Tryz.func73 (by kernel_rfl) (by kernel_rfl) fun args r h => by
  refine of_bF h fun n hn e1 e2 => ?_
  subst e1; subst e2; exact x73 n hn
/-- Names. -/
def bB (p : Int → Bool) (c : UInt8) : Bool := p c.toNat
theorem bF_at (p : Int → Bool) (c : UInt8) : bF p [.pv (.int .u8 (c.toNat : Int))] = some (.bool (bB p c)) := by
  have := c.toNat_lt
  simp only [bF]; rw [if_pos (by omega)]; rfl
def isName (s : Bs) : Bool := match s with
  | [] => false
  | c :: r => decide ((c :: r).length ≤ 32) && bB begZ c && (c :: r).all (bB inZ)
def F20 : List SV → Option SV
  | [.pv (.str s)] => some (.bool (isName s))
  | _ => none
noncomputable def T20 : FuncId → Option Pm.Spec := tab [(44, .pure false (bF begZ)), (45, .pure false (bF inZ))]
theorem T20_eq (g : Nat) : T20 g = tab [(44, .pure false (bF begZ)), (45, .pure false (bF inZ))] g := rfl
theorem drop_all {s : Bs} {i : Nat} {c : UInt8} (p : UInt8 → Bool) (h : s[i]? = some c) : (s.drop i).all p = (p c && (s.drop (i + 1)).all p) := by
  have hi := (List.getElem?_eq_some_iff.1 h)
  obtain ⟨h1, h2⟩ := hi
  rw [List.drop_eq_getElem_cons h1, h2]; rfl
theorem loop20 {F : List Fr} {P : SV × List Blk → Prop} {H : List Blk} (s : Bs) (hs : s.length ≤ 100000000) : ∀ (r i : Nat), i + r = s.length →
    ((s.drop i).all (bB inZ) = false → P (.bool false, H)) → ((s.drop i).all (bB inZ) = true → X Y T20 [.tmp 2] F (.exit 0) ⟨mk 28 .J [], H⟩ P) →
    X Y T20 [.tmp 2] F (.loop (loopN Tryz.f20 0)) ⟨mk 28 .J [(0, .str s), (18, .i (s.length : Nat)), (19, .i (i : Nat))], H⟩ P := by
  intro r
  induction r with
  | zero =>
    intro i e hp hx
    have e1 : i = s.length := by omega
    subst e1
    apply X_loop_of
    · simp only [loopN, Tryz.f20, loopsOf, List.nil_append, List.append_nil, List.cons_append, List.getD_cons_succ, List.getD_cons_zero]; rfl
    simp
    refine X_keep (hx (by simp)) (by simp)
  | succ r ih =>
    intro i e hp hx
    have hi : i < s.length := by omega
    obtain ⟨c, hc⟩ : ∃ c, s[i]? = some c := ⟨_, List.getElem?_eq_getElem hi⟩
    have hd := drop_all (bB inZ) hc
    have hb := bF_at inZ c
    have q3 := next_i (m := i) (by omega)
    have c4 : ((i : Nat) : Int) < (s.length : Nat) := by omega
    have c3 : ((i : Nat) : Int).toNat = i := by omega
    rw [hd] at hp hx
    apply X_loop_of
    · simp only [loopN, Tryz.f20, loopsOf, List.nil_append, List.append_nil, List.cons_append, List.getD_cons_succ, List.getD_cons_zero]; rfl
    cases hbc : bB inZ c with
    | false =>
      rw [hbc] at hp hb
      simp [-Int.natCast_add, -Int.not_lt, -Int.not_le, -getElem?_pos, T20_eq, q3, c4, c3, hi, hc, hb]
      exact hp rfl
    | true =>
      rw [hbc] at hp hx hb
      simp [-Int.natCast_add, -Int.not_lt, -Int.not_le, -getElem?_pos, T20_eq, q3, c4, c3, hi, hc, hb]
      refine X_keep (ih (i + 1) (by omega) (fun h => hp (by simpa using h)) (fun h => hx (by simpa using h))) ?_
      simp
theorem x20 (s : Bs) : XFn Y T20 Tryz.f20 [.str s] [] (Is (.bool (isName s))) := by
  unfold XFn Tryz.f20
  rw [enter_1 _ (by decide)]
  cases s with
  | nil => simp [isName]
  | cons c r =>
    have hb := bF_at begZ c
    have hN : isName (c :: r) = (decide ((c :: r).length ≤ 32) && bB begZ c && (c :: r).all (bB inZ)) := rfl
    have hne : ¬ c :: r = [] := by simp
    have h0 : (c :: r)[0]? = some c := rfl
    generalize c :: r = s at *
    by_cases h32 : s.length ≤ 32
    · have c1 : ¬ (32 : Int) < (s.length : Nat) := by omega
      have c2 : ¬ 32 < s.length := by omega
      cases hbc : bB begZ c with
      | false =>
        rw [hbc] at hb
        simp [-Int.natCast_add, -Int.not_lt, -Int.not_le, -getElem?_pos, T20_eq, hb, c1, c2, hne, h0, hN, hbc]
      | true =>
        rw [hbc] at hb
        have L := fun F P H => loop20 (F := F) (P := P) (H := H) s (by omega) s.length 0 (by omega)
        simp [-Int.natCast_add, -Int.not_lt, -Int.not_le, -getElem?_pos, -outR, T20_eq, hb, c1, c2, hne, h0]
        refine X_keep (L _ _ _ (fun h => ?_) (fun h => ?_)) ?_
        · simp only [List.drop_zero] at h
          simp [hN, h, hbc, h32]
        · simp only [List.drop_zero] at h
          simp [hN, h, hbc, h32]
        · simp
    · have c1 : (32 : Int) < (s.length : Nat) := by omega
      have c2 : 32 < s.length := by omega
      simp [-Int.natCast_add, -Int.not_lt, -Int.not_le, T20_eq, c1, c2, hne, hN, h32]
theorem meets20 (W0 : World) : OkAt W0 20 F20 := meets_fn env (tok_cons (meets44 W0) (tok_cons (meets45 W0) tok_nil)) mixed Tryz.func20 (by kernel_rfl) (by kernel_rfl) fun args r h => by
  unfold F20 at h
  split at h
  · cases h; exact x20 _
  · cases h
/-- The reference's names. -/
noncomputable def T21 : FuncId → Option Pm.Spec := tab [(46, .pure false (bF begZ)), (47, .pure false (bF inZ))]
theorem T21_eq (g : Nat) : T21 g = tab [(46, .pure false (bF begZ)), (47, .pure false (bF inZ))] g := rfl
theorem loop21 {F : List Fr} {P : SV × List Blk → Prop} {H : List Blk} (s : Bs) (hs : s.length ≤ 100000000) : ∀ (r i : Nat), i + r = s.length →
    ((s.drop i).all (bB inZ) = false → P (.bool false, H)) → ((s.drop i).all (bB inZ) = true → X Y T21 [.tmp 2] F (.exit 0) ⟨mk 28 .J [], H⟩ P) →
    X Y T21 [.tmp 2] F (.loop (loopN Tryz.f21 0)) ⟨mk 28 .J [(0, .str s), (3, .i (i : Nat))], H⟩ P := by
  intro r
  induction r with
  | zero =>
    intro i e hp hx
    have e1 : i = s.length := by omega
    subst e1
    apply X_loop_of
    · simp only [loopN, Tryz.f21, loopsOf, List.nil_append, List.append_nil, List.cons_append, List.getD_cons_succ, List.getD_cons_zero]; rfl
    simp
    refine X_keep (hx (by simp)) (by simp)
  | succ r ih =>
    intro i e hp hx
    have hi : i < s.length := by omega
    obtain ⟨c, hc⟩ : ∃ c, s[i]? = some c := ⟨_, List.getElem?_eq_getElem hi⟩
    have hd := drop_all (bB inZ) hc
    have hb := bF_at inZ c
    have q3 := next_i (m := i) (by omega)
    have c4 : ((i : Nat) : Int) < (s.length : Nat) := by omega
    have c3 : ((i : Nat) : Int).toNat = i := by omega
    rw [hd] at hp hx
    apply X_loop_of
    · simp only [loopN, Tryz.f21, loopsOf, List.nil_append, List.append_nil, List.cons_append, List.getD_cons_succ, List.getD_cons_zero]; rfl
    cases hbc : bB inZ c with
    | false =>
      rw [hbc] at hp hb
      simp [-Int.natCast_add, -Int.not_lt, -Int.not_le, -getElem?_pos, T21_eq, q3, c4, c3, hi, hc, hb]
      exact hp rfl
    | true =>
      rw [hbc] at hp hx hb
      simp [-Int.natCast_add, -Int.not_lt, -Int.not_le, -getElem?_pos, T21_eq, q3, c4, c3, hi, hc, hb]
      refine X_keep (ih (i + 1) (by omega) (fun h => hp (by simpa using h)) (fun h => hx (by simpa using h))) ?_
      simp
theorem x21 (s : Bs) : XFn Y T21 Tryz.f21 [.str s] [] (Is (.bool (isName s))) := by
  unfold XFn Tryz.f21
  rw [enter_1 _ (by decide)]
  cases s with
  | nil => simp [isName]
  | cons c r =>
    have hb := bF_at begZ c
    have hN : isName (c :: r) = (decide ((c :: r).length ≤ 32) && bB begZ c && (c :: r).all (bB inZ)) := rfl
    have hne : ¬ c :: r = [] := by simp
    have h0 : (c :: r)[0]? = some c := rfl
    generalize c :: r = s at *
    by_cases h32 : s.length ≤ 32
    · have c1 : ¬ (32 : Int) < (s.length : Nat) := by omega
      have c2 : ¬ 32 < s.length := by omega
      cases hbc : bB begZ c with
      | false =>
        rw [hbc] at hb
        simp [-Int.natCast_add, -Int.not_lt, -Int.not_le, -getElem?_pos, T21_eq, hb, c1, c2, hne, h0, hN, hbc]
      | true =>
        rw [hbc] at hb
        have L := fun F P H => loop21 (F := F) (P := P) (H := H) s (by omega) s.length 0 (by omega)
        simp [-Int.natCast_add, -Int.not_lt, -Int.not_le, -getElem?_pos, -outR, T21_eq, hb, c1, c2, hne, h0]
        refine X_keep (L _ _ _ (fun h => ?_) (fun h => ?_)) ?_
        · simp only [List.drop_zero] at h
          simp [hN, h, hbc, h32]
        · simp only [List.drop_zero] at h
          simp [hN, h, hbc, h32]
        · simp
    · have c1 : (32 : Int) < (s.length : Nat) := by omega
      have c2 : 32 < s.length := by omega
      simp [-Int.natCast_add, -Int.not_lt, -Int.not_le, T21_eq, c1, c2, hne, hN, h32]
theorem meets21 (W0 : World) : OkAt W0 21 F20 := meets_fn env (tok_cons (meets46 W0) (tok_cons (meets47 W0) tok_nil)) mixed Tryz.func21 (by kernel_rfl) (by kernel_rfl) fun args r h => by
  unfold F20 at h
  split at h
  · cases h; exact x21 _
  · cases h
/-- Character data. -/
def dataE (s : Bs) : Int := if 4096 < s.length then 5 else if s.all (bB perZ) then 0 else 6
def F70 : List SV → Option SV
  | [.pv (.str s)] => some (.i (dataE s))
  | _ => none
noncomputable def T70 : FuncId → Option Pm.Spec := tab [(36, .pure false (bF perZ))]
theorem T70_eq (g : Nat) : T70 g = tab [(36, .pure false (bF perZ))] g := rfl
theorem loop70 {F : List Fr} {P : SV × List Blk → Prop} {H : List Blk} (s : Bs) (hs : s.length ≤ 100000000) : ∀ (r i : Nat), i + r = s.length →
    ((s.drop i).all (bB perZ) = false → P (.i 6, H)) → ((s.drop i).all (bB perZ) = true → X Y T70 [.tmp 2] F (.exit 0) ⟨mk 18 .J [], H⟩ P) →
    X Y T70 [.tmp 2] F (.loop (loopN Tryz.f70 0)) ⟨mk 18 .J [(0, .str s), (8, .i (s.length : Nat)), (9, .i (i : Nat))], H⟩ P := by
  intro r
  induction r with
  | zero =>
    intro i e hp hx
    have e1 : i = s.length := by omega
    subst e1
    apply X_loop_of
    · simp only [loopN, Tryz.f70, loopsOf, List.nil_append, List.append_nil, List.cons_append, List.getD_cons_succ, List.getD_cons_zero]; rfl
    simp
    refine X_keep (hx (by simp)) (by simp)
  | succ r ih =>
    intro i e hp hx
    have hi : i < s.length := by omega
    obtain ⟨c, hc⟩ : ∃ c, s[i]? = some c := ⟨_, List.getElem?_eq_getElem hi⟩
    have hd := drop_all (bB perZ) hc
    have hb := bF_at perZ c
    have q3 := next_i (m := i) (by omega)
    have c4 : ((i : Nat) : Int) < (s.length : Nat) := by omega
    have c3 : ((i : Nat) : Int).toNat = i := by omega
    rw [hd] at hp hx
    apply X_loop_of
    · simp only [loopN, Tryz.f70, loopsOf, List.nil_append, List.append_nil, List.cons_append, List.getD_cons_succ, List.getD_cons_zero]; rfl
    cases hbc : bB perZ c with
    | false =>
      rw [hbc] at hp hb
      simp [-Int.natCast_add, -Int.not_lt, -Int.not_le, -getElem?_pos, T70_eq, q3, c4, c3, hi, hc, hb]
      exact hp rfl
    | true =>
      rw [hbc] at hp hx hb
      simp [-Int.natCast_add, -Int.not_lt, -Int.not_le, -getElem?_pos, T70_eq, q3, c4, c3, hi, hc, hb]
      refine X_keep (ih (i + 1) (by omega) (fun h => hp (by simpa using h)) (fun h => hx (by simpa using h))) ?_
      simp
theorem x70 (s : Bs) : XFn Y T70 Tryz.f70 [.str s] [] (Is (.i (dataE s))) := by
  unfold XFn Tryz.f70
  rw [enter_1 _ (by decide)]
  by_cases h : 4096 < s.length
  · have c1 : (4096 : Int) < (s.length : Nat) := by omega
    simp [-Int.not_lt, -Int.not_le, c1, h, dataE]
  · have c1 : ¬ (4096 : Int) < (s.length : Nat) := by omega
    have L := fun F P H => loop70 (F := F) (P := P) (H := H) s (by omega) s.length 0 (by omega)
    simp [-Int.not_lt, -Int.not_le, -outR, c1, h]
    refine X_keep (L _ _ _ (fun h' => ?_) (fun h' => ?_)) ?_
    · simp only [List.drop_zero] at h'
      simp [-List.all_eq_true, dataE, h, h']
    · simp only [List.drop_zero] at h'
      simp [-List.all_eq_true, dataE, h, h']
    · simp
theorem meets70 (W0 : World) : OkAt W0 70 F70 := meets_fn env (tok_cons (meets36 W0) tok_nil) mixed Tryz.func70 (by kernel_rfl) (by kernel_rfl) fun args r h => by
  unfold F70 at h
  split at h
  · cases h; exact x70 _
  · cases h
noncomputable def T71 : FuncId → Option Pm.Spec := tab [(83, .pure false (bF perZ))]
theorem T71_eq (g : Nat) : T71 g = tab [(83, .pure false (bF perZ))] g := rfl
theorem loop71 {F : List Fr} {P : SV × List Blk → Prop} {H : List Blk} (s : Bs) (hs : s.length ≤ 100000000) : ∀ (r i : Nat), i + r = s.length →
    ((s.drop i).all (bB perZ) = false → P (.i 6, H)) → ((s.drop i).all (bB perZ) = true → X Y T71 [.tmp 2] F (.exit 0) ⟨mk 18 .J [], H⟩ P) →
    X Y T71 [.tmp 2] F (.loop (loopN Tryz.f71 0)) ⟨mk 18 .J [(0, .str s), (3, .i (i : Nat))], H⟩ P := by
  intro r
  induction r with
  | zero =>
    intro i e hp hx
    have e1 : i = s.length := by omega
    subst e1
    apply X_loop_of
    · simp only [loopN, Tryz.f71, loopsOf, List.nil_append, List.append_nil, List.cons_append, List.getD_cons_succ, List.getD_cons_zero]; rfl
    simp
    refine X_keep (hx (by simp)) (by simp)
  | succ r ih =>
    intro i e hp hx
    have hi : i < s.length := by omega
    obtain ⟨c, hc⟩ : ∃ c, s[i]? = some c := ⟨_, List.getElem?_eq_getElem hi⟩
    have hd := drop_all (bB perZ) hc
    have hb := bF_at perZ c
    have q3 := next_i (m := i) (by omega)
    have c4 : ((i : Nat) : Int) < (s.length : Nat) := by omega
    have c3 : ((i : Nat) : Int).toNat = i := by omega
    rw [hd] at hp hx
    apply X_loop_of
    · simp only [loopN, Tryz.f71, loopsOf, List.nil_append, List.append_nil, List.cons_append, List.getD_cons_succ, List.getD_cons_zero]; rfl
    cases hbc : bB perZ c with
    | false =>
      rw [hbc] at hp hb
      simp [-Int.natCast_add, -Int.not_lt, -Int.not_le, -getElem?_pos, T71_eq, q3, c4, c3, hi, hc, hb]
      exact hp rfl
    | true =>
      rw [hbc] at hp hx hb
      simp [-Int.natCast_add, -Int.not_lt, -Int.not_le, -getElem?_pos, T71_eq, q3, c4, c3, hi, hc, hb]
      refine X_keep (ih (i + 1) (by omega) (fun h => hp (by simpa using h)) (fun h => hx (by simpa using h))) ?_
      simp
theorem x71 (s : Bs) : XFn Y T71 Tryz.f71 [.str s] [] (Is (.i (dataE s))) := by
  unfold XFn Tryz.f71
  rw [enter_1 _ (by decide)]
  by_cases h : 4096 < s.length
  · have c1 : (4096 : Int) < (s.length : Nat) := by omega
    simp [-Int.not_lt, -Int.not_le, c1, h, dataE]
  · have c1 : ¬ (4096 : Int) < (s.length : Nat) := by omega
    have L := fun F P H => loop71 (F := F) (P := P) (H := H) s (by omega) s.length 0 (by omega)
    simp [-Int.not_lt, -Int.not_le, -outR, c1, h]
    refine X_keep (L _ _ _ (fun h' => ?_) (fun h' => ?_)) ?_
    · simp only [List.drop_zero] at h'
      simp [-List.all_eq_true, dataE, h, h']
    · simp only [List.drop_zero] at h'
      simp [-List.all_eq_true, dataE, h, h']
    · simp
theorem meets71 (W0 : World) : OkAt W0 71 F70 := meets_fn env (tok_cons (meets83 W0) tok_nil) mixed Tryz.func71 (by kernel_rfl) (by kernel_rfl) fun args r h => by
  unfold F70 at h
  split at h
  · cases h; exact x71 _
  · cases h
end Go.Proofs.YtkckpmcpmngiiaaGreatDoor
/- Counting elements and levels, by the machine. -/
set_option linter.unusedSimpArgs false
set_option linter.unusedVariables false
set_option maxRecDepth 1000000
set_option maxHeartbeats 400000
namespace Go.Proofs.YtkckpmcpmngiiaaGreatDoor
open Go Go.Pm Go.RowKit
theorem get_last (H : List Blk) (b : Blk) : (H ++ [b])[H.length]? = some b := by simp
theorem set_last (H : List Blk) (b c : Blk) : (H ++ [b]).set H.length c = H ++ [c] := by simp
/-- The element that an argument is. -/
def argN : SV → Option Nd
  | .agg [.pv (.str n), .pv a, .pv (.str t), .pv k] => ndP [.str n, a, .str t, k]
  | _ => none
abbrev nodeS (nm : Bs) (a : PV) (tx : Bs) (k : PV) : SV := .agg [.pv (.str nm), .pv a, .pv (.str tx), .pv k]
theorem argN_or {v : SV} {n : Nd} (h : argN v = some n) : ∃ a k, v = nodeS n.name a n.text k ∧ atP a = some n.attrs ∧ kidP k = some n.kids := by
  unfold argN at h
  split at h
  · obtain ⟨a, k, e, h1, h2⟩ := ndP_or h
    simp only [List.cons.injEq, PV.str.injEq] at e
    obtain ⟨e1, e2, e3, e4, -⟩ := e
    exact ⟨_, _, by rw [e1, e3], by rw [e2]; exact h1, by rw [e4]; exact h2⟩
  · cases h
theorem argN_mk {nm : Bs} {a : PV} {tx : Bs} {k : PV} {l : List (Bs × Bs)} {ks : List Nd} (ha : atP a = some l) (hk : kidP k = some ks) : argN (nodeS nm a tx k) = some (.mk nm l tx ks) := by
  simp only [argN, ndP, ha, hk]
theorem kid_len {p : PV} {l : List Nd} (h : kidP p = some l) : aLen Y 31 (.pv p) = some l.length ∧ aLen Y 23 (.pv p) = some l.length := by
  rcases kidP_or h with ⟨rfl, rfl | rfl⟩ | ⟨es, rfl, hr⟩
  · exact ⟨rfl, rfl⟩
  · exact ⟨rfl, rfl⟩
  · have := rowsP_len hr
    constructor <;> simp [aLen, kindOf, sliceElems, this]
theorem kid_at {p : PV} {l : List Nd} (h : kidP p = some l) {i : Nat} {n : Nd} (hi : l[i]? = some n) :
    ∃ nm a tx k, aIndexAddr Y 31 (.pv p) (i : Nat) = some (.cptr [.str nm, a, .str tx, k]) ∧ aIndexAddr Y 23 (.pv p) (i : Nat) = some (.cptr [.str nm, a, .str tx, k]) ∧ argN (nodeS nm a tx k) = some n := by
  rcases kidP_or h with ⟨rfl, rfl | rfl⟩ | ⟨es, rfl, hr⟩
  · simp at hi
  · simp at hi
  · obtain ⟨e, he, hn⟩ := rowsP_at hr hi
    obtain ⟨a, k, rfl, ha, hk⟩ := ndP_or hn
    refine ⟨n.name, a, n.text, k, ?_, ?_, ?_⟩
    · simp [aIndexAddr, kindOf, aElem, he, -getElem?_pos]
    · simp [aIndexAddr, kindOf, aElem, he, -getElem?_pos]
    · exact hn
theorem drop_kid {l : List Nd} {i : Nat} {n : Nd} (h : l[i]? = some n) : l.drop i = n :: l.drop (i + 1) := by
  obtain ⟨h1, h2⟩ := List.getElem?_eq_some_iff.1 h
  rw [List.drop_eq_getElem_cons h1, h2]
theorem count_pos (n : Nd) : 0 < n.count := by cases n; simp only [Nd.count]; omega
theorem count_kid {l : List Nd} {n : Nd} (h : n ∈ l) : n.count ≤ countL l := by
  induction l with
  | nil => cases h
  | cons a r ih =>
    simp only [countL]
    rcases List.mem_cons.1 h with rfl | h
    · omega
    · have := ih h; omega
theorem countL_ge : ∀ l : List Nd, l.length ≤ countL l
  | [] => by simp [countL]
  | n :: r => by have := countL_ge r; have := count_pos n; simp only [countL, List.length_cons]; omega
theorem count_eq (n : Nd) : n.count = 1 + countL n.kids := by cases n; simp only [Nd.count, Nd.kids]
theorem depth_eq (n : Nd) : n.depth = 1 + depthL n.kids := by cases n; simp only [Nd.depth, Nd.kids]
def F24n (m : Nat) : List SV → Option SV
  | [v] => match argN v with
    | some n => if n.count ≤ m ∧ n.count ≤ 1000000 then some (.i (n.count : Nat)) else none
    | none => none
  | _ => none
theorem F24n_ok {m : Nat} {v : SV} {n : Nd} (h : argN v = some n) (h1 : n.count ≤ m) (h2 : n.count ≤ 1000000) : F24n m [v] = some (.i (n.count : Nat)) := by
  simp only [F24n, h]; rw [if_pos ⟨h1, h2⟩]
theorem of_F24n {m : Nat} {args : List SV} {r : SV} {Q : Prop} (h : F24n m args = some r) (k : ∀ a k n, atP a = some (Nd.attrs n) → kidP k = some n.kids → args = [nodeS n.name a n.text k] → r = .i (n.count : Nat) → n.count ≤ m → n.count ≤ 1000000 → Q) : Q := by
  unfold F24n at h
  split at h
  · split at h
    · rename_i n hn
      split at h
      · rename_i hc
        cases h
        obtain ⟨a, kk, e, h1, h2⟩ := argN_or hn
        exact k a kk n h1 h2 (by rw [e]) rfl hc.1 hc.2
      · cases h
    · cases h
  · cases h
noncomputable def T24 (m : Nat) : FuncId → Option Pm.Spec := tab [(24, .pure false (F24n m))]
theorem T24_eq (m g : Nat) : T24 m g = tab [(24, .pure false (F24n m))] g := rfl
theorem loop24 {F : List Fr} {P : SV × List Blk → Prop} {rs : List ResultVar} {m : Nat} {k : PV} {ks : List Nd} (hk : kidP k = some ks) (hm : ∀ n ∈ ks, n.count ≤ m) (hb : countL ks < 1000000) : ∀ (r i : Nat) (H : List Blk) (s : Nat), i + r = ks.length → s + countL (ks.drop i) = 1 + countL ks →
    (∀ H, X Y (T24 m) rs F (.exit 0) ⟨mk 19 .J [(3, .i (1 + countL ks : Nat))], H⟩ P) →
    X Y (T24 m) rs F (.loop (loopN Tryz.f24 0)) ⟨mk 19 .J [(3, .i (s : Nat)), (7, .pv k), (8, .i (ks.length : Nat)), (9, .i (i : Nat))], H⟩ P := by
  intro r
  induction r with
  | zero =>
    intro i H s e hs hx
    have e1 : i = ks.length := by omega
    subst e1
    rw [List.drop_of_length_le (Nat.le_refl _), countL, Nat.add_zero] at hs
    subst hs
    apply X_loop_of
    · simp only [loopN, Tryz.f24, loopsOf, List.nil_append, List.append_nil, List.cons_append, List.getD_cons_succ, List.getD_cons_zero]; rfl
    simp
    refine X_keep (hx H) (by simp)
  | succ r ih =>
    intro i H s e hs hx
    have hi : i < ks.length := by omega
    obtain ⟨n, hn⟩ : ∃ n, ks[i]? = some n := ⟨_, List.getElem?_eq_getElem hi⟩
    have hmem := List.mem_of_getElem? hn
    obtain ⟨nm, a, tx, k', hat, -, hv⟩ := kid_at hk hn
    have hc := count_kid hmem
    have f1 := F24n_ok hv (hm n hmem) (by omega)
    rw [drop_kid hn, countL] at hs
    have hlen := countL_ge ks
    have q3 := next_i (m := i) (by omega)
    have c4 : ((i : Nat) : Int) < (ks.length : Nat) := by omega
    have w1 : IntKind.i64.wrap (((s : Nat) : Int) + (n.count : Nat)) = ((s + n.count : Nat) : Int) := by rw [wrap64 (by omega) (by omega)]; omega
    apply X_loop_of
    · simp only [loopN, Tryz.f24, loopsOf, List.nil_append, List.append_nil, List.cons_append, List.getD_cons_succ, List.getD_cons_zero]; rfl
    simp [-Int.natCast_add, -Int.not_lt, -Int.not_le, -aIndexAddr, -getElem?_pos, List.getElem?_cons_zero, List.getElem?_cons_succ, T24_eq, q3, c4, hi, hat, f1, w1, get_last, set_last]
    refine X_keep (ih (i + 1) _ (s + n.count) (by omega) (by omega) hx) ?_
    simp
theorem x24 {m : Nat} {a k : PV} {n : Nd} (hk : kidP k = some n.kids) (h1 : n.count ≤ m + 1) (h2 : n.count ≤ 1000000) : XFn Y (T24 m) Tryz.f24 [nodeS n.name a n.text k] [] (Is (.i (n.count : Nat))) := by
  unfold XFn Tryz.f24
  rw [enter_1 _ (by decide)]
  have hl := (kid_len hk).1
  have he := count_eq n
  have L := fun F P rs H => loop24 (F := F) (P := P) (rs := rs) hk (m := m) (fun x hx => by have := count_kid hx; omega) (by omega) n.kids.length 0 H 1 (by omega) (by simp)
  simp [-Int.natCast_add, -outR, -aLen, hl]
  refine X_keep (L _ _ _ _ fun H => ?_) ?_
  · simp [-Int.natCast_add, he]
  · simp
theorem meets24n (W0 : World) : ∀ m, OkAt W0 24 (F24n m)
  | 0 => meets_fn env tok_nil mixed Tryz.func24 (by kernel_rfl) (by kernel_rfl) fun args r h => by
    refine of_F24n h fun a k n _ _ _ _ h1 _ => ?_
    have := count_pos n; omega
  | m + 1 => meets_fn env (tok_cons (meets24n W0 m) tok_nil) mixed Tryz.func24 (by kernel_rfl) (by kernel_rfl) fun args r h => by
    refine of_F24n h fun a k n ha hk e1 e2 h1 h2 => ?_
    subst e1; subst e2
    exact x24 hk h1 h2
def F24 : List SV → Option SV
  | [v] => match argN v with
    | some n => if n.count ≤ 1000000 then some (.i (n.count : Nat)) else none
    | none => none
  | _ => none
theorem F24_all {as1 : List SV} {r : SV} (h : F24 as1 = some r) : ∃ m, F24n m as1 = some r := by
  unfold F24 at h
  split at h
  · split at h
    · rename_i n hn
      split at h
      · rename_i hc; cases h; exact ⟨n.count, F24n_ok hn (Nat.le_refl _) hc⟩
      · cases h
    · cases h
  · cases h
theorem meets24 (W0 : World) : OkAt W0 24 F24 := OkAt.all (meets24n W0) fun as1 r h => F24_all h
theorem F24_ok {v : SV} {n : Nd} (h : argN v = some n) (h2 : n.count ≤ 1000000) : F24 [v] = some (.i (n.count : Nat)) := by
  simp only [F24, h]; rw [if_pos h2]
/-- The reference's count. -/
noncomputable def T25 (m : Nat) : FuncId → Option Pm.Spec := tab [(25, .pure false (F24n m))]
theorem T25_eq (m g : Nat) : T25 m g = tab [(25, .pure false (F24n m))] g := rfl
theorem loop25 {F : List Fr} {P : SV × List Blk → Prop} {rs : List ResultVar} {m : Nat} {nm tx : Bs} {a k : PV} {ks : List Nd} (hk : kidP k = some ks) (hm : ∀ n ∈ ks, n.count ≤ m) (hb : countL ks < 1000000) : ∀ (r i : Nat) (s : Nat), i + r = ks.length → s + countL (ks.drop i) = 1 + countL ks →
    (X Y (T25 m) rs F (.exit 0) ⟨mk 21 .J [(3, .i (1 + countL ks : Nat))], [.box (some 25) [.pv (.str nm), .pv a, .pv (.str tx), .pv k]]⟩ P) →
    X Y (T25 m) rs F (.loop (loopN Tryz.f25 0)) ⟨mk 21 .J [(1, .ptr 0 0), (3, .i (s : Nat)), (4, .i (i : Nat))], [.box (some 25) [.pv (.str nm), .pv a, .pv (.str tx), .pv k]]⟩ P := by
  have hl := (kid_len hk).2
  intro r
  induction r with
  | zero =>
    intro i s e hs hx
    have e1 : i = ks.length := by omega
    subst e1
    rw [List.drop_of_length_le (Nat.le_refl _), countL, Nat.add_zero] at hs
    subst hs
    apply X_loop_of
    · simp only [loopN, Tryz.f25, loopsOf, List.nil_append, List.append_nil, List.cons_append, List.getD_cons_succ, List.getD_cons_zero]; rfl
    simp [-aLen, hl]
    refine X_keep hx (by simp)
  | succ r ih =>
    intro i s e hs hx
    have hi : i < ks.length := by omega
    obtain ⟨n, hn⟩ : ∃ n, ks[i]? = some n := ⟨_, List.getElem?_eq_getElem hi⟩
    have hmem := List.mem_of_getElem? hn
    obtain ⟨nm', a', tx', k', -, hat, hv⟩ := kid_at hk hn
    have hc := count_kid hmem
    have f1 := F24n_ok hv (hm n hmem) (by omega)
    rw [drop_kid hn, countL] at hs
    have hlen := countL_ge ks
    have q3 := next_i (m := i) (by omega)
    have c4 : ((i : Nat) : Int) < (ks.length : Nat) := by omega
    have w1 : IntKind.i64.wrap (((s : Nat) : Int) + (n.count : Nat)) = ((s + n.count : Nat) : Int) := by rw [wrap64 (by omega) (by omega)]; omega
    apply X_loop_of
    · simp only [loopN, Tryz.f25, loopsOf, List.nil_append, List.append_nil, List.cons_append, List.getD_cons_succ, List.getD_cons_zero]; rfl
    simp [-Int.natCast_add, -Int.not_lt, -Int.not_le, -aIndexAddr, -aLen, -getElem?_pos, List.getElem?_cons_zero, List.getElem?_cons_succ, T25_eq, hl, q3, c4, hi, hat, f1, w1]
    refine X_keep (ih (i + 1) (s + n.count) (by omega) (by omega) hx) ?_
    simp
theorem x25 {m : Nat} {a k : PV} {n : Nd} (hk : kidP k = some n.kids) (h1 : n.count ≤ m + 1) (h2 : n.count ≤ 1000000) : XFn Y (T25 m) Tryz.f25 [nodeS n.name a n.text k] [] (Is (.i (n.count : Nat))) := by
  unfold XFn Tryz.f25
  rw [enter_1 _ (by decide)]
  have he := count_eq n
  have L := fun F P rs => loop25 (F := F) (P := P) (rs := rs) (nm := n.name) (tx := n.text) (a := a) hk (m := m) (fun x hx => by have := count_kid hx; omega) (by omega) n.kids.length 0 1 (by omega) (by simp)
  simp [-Int.natCast_add, -outR, -aLen]
  refine X_keep (L _ _ _ ?_) ?_
  · simp [-Int.natCast_add, he]
  · simp
theorem meets25n (W0 : World) : ∀ m, OkAt W0 25 (F24n m)
  | 0 => meets_fn env tok_nil mixed Tryz.func25 (by kernel_rfl) (by kernel_rfl) fun args r h => by
    refine of_F24n h fun a k n _ _ _ _ h1 _ => ?_
    have := count_pos n; omega
  | m + 1 => meets_fn env (tok_cons (meets25n W0 m) tok_nil) mixed Tryz.func25 (by kernel_rfl) (by kernel_rfl) fun args r h => by
    refine of_F24n h fun a k n ha hk e1 e2 h1 h2 => ?_
    subst e1; subst e2
    exact x25 hk h1 h2
theorem meets25 (W0 : World) : OkAt W0 25 F24 := OkAt.all (meets25n W0) fun as1 r h => F24_all h
end Go.Proofs.YtkckpmcpmngiiaaGreatDoor
/- Levels, by the machine. -/
set_option linter.unusedSimpArgs false
set_option linter.unusedVariables false
set_option maxRecDepth 1000000
set_option maxHeartbeats 400000
namespace Go.Proofs.YtkckpmcpmngiiaaGreatDoor
open Go Go.Pm Go.RowKit
theorem depth_kid {l : List Nd} {n : Nd} (h : n ∈ l) : n.depth ≤ depthL l := by
  induction l with
  | nil => cases h
  | cons a r ih =>
    simp only [depthL]
    rcases List.mem_cons.1 h with rfl | h
    · omega
    · have := ih h; omega
theorem depth_le_count (n : Nd) : n.depth ≤ n.count ∧ ∀ l : List Nd, l = n.kids → depthL l ≤ countL l := by
  have key : ∀ m (n : Nd), n.count ≤ m → n.depth ≤ n.count := by
    intro m
    induction m with
    | zero => intro n h; have := count_pos n; omega
    | succ m ih =>
      intro n h
      rw [count_eq] at h
      rw [count_eq, depth_eq]
      have : ∀ l : List Nd, countL l ≤ m → depthL l ≤ countL l := by
        intro l
        induction l with
        | nil => intro _; simp [depthL, countL]
        | cons a r ihr =>
          intro hl
          simp only [countL] at hl
          have h1 := ih a (by omega)
          have h2 := ihr (by omega)
          simp only [depthL, countL]
          omega
      have := this n.kids (by omega)
      omega
  refine ⟨key n.count n (Nat.le_refl _), ?_⟩
  rintro l rfl
  have : ∀ l : List Nd, depthL l ≤ countL l := by
    intro l
    induction l with
    | nil => simp [depthL, countL]
    | cons a r ihr =>
      have h1 := key a.count a (Nat.le_refl _)
      simp only [depthL, countL]
      omega
  exact this _
def F26n (m : Nat) : List SV → Option SV
  | [v] => match argN v with
    | some n => if n.depth ≤ m ∧ n.count ≤ 1000000 then some (.i (n.depth : Nat)) else none
    | none => none
  | _ => none
theorem F26n_ok {m : Nat} {v : SV} {n : Nd} (h : argN v = some n) (h1 : n.depth ≤ m) (h2 : n.count ≤ 1000000) : F26n m [v] = some (.i (n.depth : Nat)) := by
  simp only [F26n, h]; rw [if_pos ⟨h1, h2⟩]
theorem of_F26n {m : Nat} {args : List SV} {r : SV} {Q : Prop} (h : F26n m args = some r) (k : ∀ a k n, atP a = some (Nd.attrs n) → kidP k = some n.kids → args = [nodeS n.name a n.text k] → r = .i (n.depth : Nat) → n.depth ≤ m → n.count ≤ 1000000 → Q) : Q := by
  unfold F26n at h
  split at h
  · split at h
    · rename_i n hn
      split at h
      · rename_i hc
        cases h
        obtain ⟨a, kk, e, h1, h2⟩ := argN_or hn
        exact k a kk n h1 h2 (by rw [e]) rfl hc.1 hc.2
      · cases h
    · cases h
  · cases h
theorem max_at (a b : Nat) : aMinMax true [.pv (.int .i64 (a : Int)), .pv (.int .i64 (b : Int))] = some (.i ((max a b : Nat) : Int)) := by
  simp only [aMinMax]
  by_cases h : b > a
  · have h1 : (b : Int) > (a : Int) := by omega
    have h2 : max a b = b := by omega
    simp [h1, h2]
  · have h1 : ¬ (b : Int) > (a : Int) := by omega
    have h2 : max a b = a := by omega
    simp [h1, h2]
noncomputable def T26 (m : Nat) : FuncId → Option Pm.Spec := tab [(26, .pure false (F26n m))]
theorem T26_eq (m g : Nat) : T26 m g = tab [(26, .pure false (F26n m))] g := rfl
theorem loop26 {F : List Fr} {P : SV × List Blk → Prop} {rs : List ResultVar} {m : Nat} {k : PV} {ks : List Nd} (hk : kidP k = some ks) (hm : ∀ n ∈ ks, n.depth ≤ m) (hb : countL ks < 1000000) : ∀ (r i : Nat) (H : List Blk) (s : Nat), i + r = ks.length → max s (depthL (ks.drop i)) = depthL ks →
    (∀ H, X Y (T26 m) rs F (.exit 0) ⟨mk 20 .J [(3, .i (depthL ks : Nat))], H⟩ P) →
    X Y (T26 m) rs F (.loop (loopN Tryz.f26 0)) ⟨mk 20 .J [(3, .i (s : Nat)), (7, .pv k), (8, .i (ks.length : Nat)), (9, .i (i : Nat))], H⟩ P := by
  intro r
  induction r with
  | zero =>
    intro i H s e hs hx
    have e1 : i = ks.length := by omega
    subst e1
    rw [List.drop_of_length_le (Nat.le_refl _), depthL, Nat.max_zero] at hs
    subst hs
    apply X_loop_of
    · simp only [loopN, Tryz.f26, loopsOf, List.nil_append, List.append_nil, List.cons_append, List.getD_cons_succ, List.getD_cons_zero]; rfl
    simp
    refine X_keep (hx H) (by simp)
  | succ r ih =>
    intro i H s e hs hx
    have hi : i < ks.length := by omega
    obtain ⟨n, hn⟩ : ∃ n, ks[i]? = some n := ⟨_, List.getElem?_eq_getElem hi⟩
    have hmem := List.mem_of_getElem? hn
    obtain ⟨nm, a, tx, k', hat, -, hv⟩ := kid_at hk hn
    have hc := count_kid hmem
    have f1 := F26n_ok hv (hm n hmem) (by omega)
    rw [drop_kid hn, depthL, ← Nat.max_assoc] at hs
    have hlen := countL_ge ks
    have q3 := next_i (m := i) (by omega)
    have c4 : ((i : Nat) : Int) < (ks.length : Nat) := by omega
    have w1 := max_at s n.depth
    apply X_loop_of
    · simp only [loopN, Tryz.f26, loopsOf, List.nil_append, List.append_nil, List.cons_append, List.getD_cons_succ, List.getD_cons_zero]; rfl
    simp [-Int.natCast_add, -Int.not_lt, -Int.not_le, -aIndexAddr, -aMinMax, -getElem?_pos, List.getElem?_cons_zero, List.getElem?_cons_succ, T26_eq, q3, c4, hi, hat, f1, w1, get_last, set_last]
    refine X_keep (ih (i + 1) _ (max s n.depth) (by omega) (by omega) hx) ?_
    simp
theorem x26 {m : Nat} {a k : PV} {n : Nd} (hk : kidP k = some n.kids) (h1 : n.depth ≤ m + 1) (h2 : n.count ≤ 1000000) : XFn Y (T26 m) Tryz.f26 [nodeS n.name a n.text k] [] (Is (.i (n.depth : Nat))) := by
  unfold XFn Tryz.f26
  rw [enter_1 _ (by decide)]
  have hl := (kid_len hk).1
  have he := depth_eq n
  have hce := count_eq n
  have hd := (depth_le_count n).1
  have L := fun F P rs H => loop26 (F := F) (P := P) (rs := rs) hk (m := m) (fun x hx => by have := depth_kid hx; omega) (by omega) n.kids.length 0 H 0 (by omega) (by simp)
  have w := next_i (m := depthL n.kids) (by omega)
  simp [-Int.natCast_add, -outR, -aLen, hl]
  refine X_keep (L _ _ _ _ fun H => ?_) ?_
  · simp [-Int.natCast_add, w, he, Nat.add_comm]
  · simp
theorem meets26n (W0 : World) : ∀ m, OkAt W0 26 (F26n m)
  | 0 => meets_fn env tok_nil mixed Tryz.func26 (by kernel_rfl) (by kernel_rfl) fun args r h => by
    refine of_F26n h fun a k n _ _ _ _ h1 _ => ?_
    have := depth_eq n; omega
  | m + 1 => meets_fn env (tok_cons (meets26n W0 m) tok_nil) mixed Tryz.func26 (by kernel_rfl) (by kernel_rfl) fun args r h => by
    refine of_F26n h fun a k n ha hk e1 e2 h1 h2 => ?_
    subst e1; subst e2
    exact x26 hk h1 h2
def F26 : List SV → Option SV
  | [v] => match argN v with
    | some n => if n.count ≤ 1000000 then some (.i (n.depth : Nat)) else none
    | none => none
  | _ => none
theorem F26_all {as1 : List SV} {r : SV} (h : F26 as1 = some r) : ∃ m, F26n m as1 = some r := by
  unfold F26 at h
  split at h
  · split at h
    · rename_i n hn
      split at h
      · rename_i hc; cases h; exact ⟨n.depth, F26n_ok hn (Nat.le_refl _) hc⟩
      · cases h
    · cases h
  · cases h
theorem meets26 (W0 : World) : OkAt W0 26 F26 := OkAt.all (meets26n W0) fun as1 r h => F26_all h
theorem F26_ok {v : SV} {n : Nd} (h : argN v = some n) (h2 : n.count ≤ 1000000) : F26 [v] = some (.i (n.depth : Nat)) := by
  simp only [F26, h]; rw [if_pos h2]
/-- The reference's depth. -/
noncomputable def T27 (m : Nat) : FuncId → Option Pm.Spec := tab [(27, .pure false (F26n m))]
theorem T27_eq (m g : Nat) : T27 m g = tab [(27, .pure false (F26n m))] g := rfl
theorem loop27 {F : List Fr} {P : SV × List Blk → Prop} {rs : List ResultVar} {m : Nat} {nm tx : Bs} {a k : PV} {ks : List Nd} (hk : kidP k = some ks) (hm : ∀ n ∈ ks, n.depth ≤ m) (hb : countL ks < 1000000) : ∀ (r i : Nat) (s : Nat), i + r = ks.length → max s (depthL (ks.drop i)) = depthL ks →
    (X Y (T27 m) rs F (.exit 0) ⟨mk 22 .J [(3, .i (depthL ks : Nat))], [.box (some 25) [.pv (.str nm), .pv a, .pv (.str tx), .pv k]]⟩ P) →
    X Y (T27 m) rs F (.loop (loopN Tryz.f27 0)) ⟨mk 22 .J [(1, .ptr 0 0), (3, .i (s : Nat)), (4, .i (i : Nat))], [.box (some 25) [.pv (.str nm), .pv a, .pv (.str tx), .pv k]]⟩ P := by
  have hl := (kid_len hk).2
  intro r
  induction r with
  | zero =>
    intro i s e hs hx
    have e1 : i = ks.length := by omega
    subst e1
    rw [List.drop_of_length_le (Nat.le_refl _), depthL, Nat.max_zero] at hs
    subst hs
    apply X_loop_of
    · simp only [loopN, Tryz.f27, loopsOf, List.nil_append, List.append_nil, List.cons_append, List.getD_cons_succ, List.getD_cons_zero]; rfl
    simp [-aLen, hl]
    refine X_keep hx (by simp)
  | succ r ih =>
    intro i s e hs hx
    have hi : i < ks.length := by omega
    obtain ⟨n, hn⟩ : ∃ n, ks[i]? = some n := ⟨_, List.getElem?_eq_getElem hi⟩
    have hmem := List.mem_of_getElem? hn
    obtain ⟨nm', a', tx', k', -, hat, hv⟩ := kid_at hk hn
    have hc := count_kid hmem
    have f1 := F26n_ok hv (hm n hmem) (by omega)
    rw [drop_kid hn, depthL, ← Nat.max_assoc] at hs
    have hlen := countL_ge ks
    have q3 := next_i (m := i) (by omega)
    have c4 : ((i : Nat) : Int) < (ks.length : Nat) := by omega
    have w1 := max_at s n.depth
    apply X_loop_of
    · simp only [loopN, Tryz.f27, loopsOf, List.nil_append, List.append_nil, List.cons_append, List.getD_cons_succ, List.getD_cons_zero]; rfl
    simp [-Int.natCast_add, -Int.not_lt, -Int.not_le, -aIndexAddr, -aLen, -aMinMax, -getElem?_pos, List.getElem?_cons_zero, List.getElem?_cons_succ, T27_eq, hl, q3, c4, hi, hat, f1, w1]
    refine X_keep (ih (i + 1) (max s n.depth) (by omega) (by omega) hx) ?_
    simp
theorem x27 {m : Nat} {a k : PV} {n : Nd} (hk : kidP k = some n.kids) (h1 : n.depth ≤ m + 1) (h2 : n.count ≤ 1000000) : XFn Y (T27 m) Tryz.f27 [nodeS n.name a n.text k] [] (Is (.i (n.depth : Nat))) := by
  unfold XFn Tryz.f27
  rw [enter_1 _ (by decide)]
  have he := depth_eq n
  have hce := count_eq n
  have hd := (depth_le_count n).1
  have L := fun F P rs => loop27 (F := F) (P := P) (rs := rs) (nm := n.name) (tx := n.text) (a := a) hk (m := m) (fun x hx => by have := depth_kid hx; omega) (by omega) n.kids.length 0 0 (by omega) (by simp)
  have w : IntKind.i64.wrap (1 + ((depthL n.kids : Nat) : Int)) = ((n.depth : Nat) : Int) := by rw [he, wrap64 (by omega) (by omega)]; omega
  simp [-Int.natCast_add, -outR, -aLen]
  refine X_keep (L _ _ _ ?_) ?_
  · simp [-Int.natCast_add, w]
  · simp
theorem meets27n (W0 : World) : ∀ m, OkAt W0 27 (F26n m)
  | 0 => meets_fn env tok_nil mixed Tryz.func27 (by kernel_rfl) (by kernel_rfl) fun args r h => by
    refine of_F26n h fun a k n _ _ _ _ h1 _ => ?_
    have := depth_eq n; omega
  | m + 1 => meets_fn env (tok_cons (meets27n W0 m) tok_nil) mixed Tryz.func27 (by kernel_rfl) (by kernel_rfl) fun args r h => by
    refine of_F26n h fun a k n ha hk e1 e2 h1 h2 => ?_
    subst e1; subst e2
    exact x27 hk h1 h2
theorem meets27 (W0 : World) : OkAt W0 27 F26 := OkAt.all (meets27n W0) fun as1 r h => F26_all h
end Go.Proofs.YtkckpmcpmngiiaaGreatDoor
/- The first error of an element, by the machine. -/
set_option linter.unusedSimpArgs false
set_option linter.unusedVariables false
set_option maxRecDepth 1000000
set_option maxHeartbeats 400000
namespace Go.Proofs.YtkckpmcpmngiiaaGreatDoor
open Go Go.Pm Go.RowKit
abbrev atS (a : Bs × Bs) : SV := .agg [.pv (.str a.1), .pv (.str a.2)]
def hasA (l : List (Bs × Bs)) (n : Bs) : Bool := l.any fun b => decide (b.1 = n)
theorem at_len {p : PV} {l : List (Bs × Bs)} (h : atP p = some l) : aLen Y 30 (.pv p) = some l.length ∧ aLen Y 22 (.pv p) = some l.length := by
  rcases atP_or h with ⟨rfl, rfl | rfl⟩ | rfl
  · exact ⟨rfl, rfl⟩
  · exact ⟨rfl, rfl⟩
  · constructor <;> simp [aLen, kindOf, sliceElems]
theorem at_at {p : PV} {l : List (Bs × Bs)} (h : atP p = some l) {i : Nat} {x : Bs × Bs} (hi : l[i]? = some x) :
    aIndexAddr Y 30 (.pv p) (i : Nat) = some (.cptr [.str x.1, .str x.2]) ∧ aIndexAddr Y 22 (.pv p) (i : Nat) = some (.cptr [.str x.1, .str x.2]) := by
  rcases atP_or h with ⟨rfl, rfl | rfl⟩ | rfl
  · simp at hi
  · simp at hi
  · have : (l.map atRow)[i]? = some (atRow x) := by simp [hi]
    constructor <;> (simp [aIndexAddr, kindOf, aElem, this, -getElem?_pos]; rfl)
theorem atP_take {l : List (Bs × Bs)} (i : Nat) : atP (.slice 2 ((l.map atRow).take i)) = some (l.take i) := by
  rw [← List.map_take]; exact unAt_rows _
theorem x69 {H : List Blk} {kk : Nat} {n v b1 b2 : Bs} (hk : H[kk]? = some (.box (some 48) [.pv (.str n), .pv (.str v)])) :
    XFn Y T0 Tryz.f69 [.agg [.pv (.str b1), .pv (.str b2)], .ptr kk 0] H (fun x => x = (.bool (decide (b1 = n)), H ++ [.box (some 48) [.pv (.str b1), .pv (.str b2)]])) := by
  unfold XFn Tryz.f69
  rw [enter_2 _ (by decide)]
  have h2 : (H ++ [.box (some 48) [.pv (.str b1), .pv (.str b2)]])[kk]? = some (.box (some 48) [.pv (.str n), .pv (.str v)]) := by rw [List.getElem?_append_left (List.getElem?_eq_some_iff.1 hk).1]; exact hk
  simp [-getElem?_pos, List.getElem?_cons_zero, List.getElem?_cons_succ, h2, get_last]
  by_cases h : b1 = n <;> simp [h]
theorem all69 {H : List Blk} {kk : Nat} {n v b1 b2 : Bs} (hk : H[kk]? = some (.box (some 48) [.pv (.str n), .pv (.str v)])) :
    arunAll Y T0 Tryz.f69 [.agg [.pv (.str b1), .pv (.str b2)], .ptr kk 0] H = some (.bool (decide (b1 = n)), H ++ [.box (some 48) [.pv (.str b1), .pv (.str b2)]]) := by
  obtain ⟨r, H', h1, h2⟩ := all_of_XFn (by rfl) (x69 (v := v) (b2 := b2) hk)
  cases h2; exact h1
theorem meets69 (W0 : World) : Enterable Tryz.prog 69 ∧ Meets Tryz.prog W0 69 (specFn (.heap (arunAll Y T0 Tryz.f69))) := meets_heap env tok_nil mixed Tryz.func69 (by kernel_rfl) (by kernel_rfl)
noncomputable def T82 : FuncId → Option Pm.Spec := tab [(69, .heap (arunAll Y T0 Tryz.f69))]
theorem T82_eq (g : Nat) : T82 g = tab [(69, .heap (arunAll Y T0 Tryz.f69))] g := rfl
theorem meets82 (W0 : World) : Enterable Tryz.prog 82 ∧ Meets Tryz.prog W0 82 (specFn (.heap (arunAll Y T82 Tryz.f82))) := meets_heap env (tok_cons (meets69 W0) tok_nil) mixed Tryz.func82 (by kernel_rfl) (by kernel_rfl)
theorem hasA_drop {l : List (Bs × Bs)} {i : Nat} {x : Bs × Bs} (n : Bs) (h : l[i]? = some x) : hasA (l.drop i) n = (decide (x.1 = n) || hasA (l.drop (i + 1)) n) := by
  obtain ⟨h1, h2⟩ := List.getElem?_eq_some_iff.1 h
  rw [List.drop_eq_getElem_cons h1, h2]; rfl
theorem loop82 {F : List Fr} {P : SV × List Blk → Prop} {kk : Nat} {n v : Bs} {p : PV} {l : List (Bs × Bs)} (hp : atP p = some l) (hl : l.length ≤ 1000000) : ∀ (r i : Nat) (H : List Blk), i + r = l.length → H[kk]? = some (.box (some 48) [.pv (.str n), .pv (.str v)]) →
    (hasA (l.drop i) n = true → ∀ (j : Nat) G, P (.i j, H ++ G)) → (hasA (l.drop i) n = false → ∀ G, X Y T82 [.tmp 4] F (.exit 0) ⟨mk 19 .J [], H ++ G⟩ P) →
    X Y T82 [.tmp 4] F (.loop (loopN Tryz.f82 0)) ⟨mk 19 .J [(0, .pv p), (1, .clo 69 [.ptr kk 0]), (7, .i (l.length : Nat)), (8, .i (i : Nat))], H⟩ P := by
  intro r
  induction r with
  | zero =>
    intro i H e hk hp1 hx
    have e1 : i = l.length := by omega
    subst e1
    have hx := hx (by rw [List.drop_of_length_le (Nat.le_refl _)]; rfl) []
    rw [List.append_nil] at hx
    apply X_loop_of
    · simp only [loopN, Tryz.f82, loopsOf, List.nil_append, List.append_nil, List.cons_append, List.getD_cons_succ, List.getD_cons_zero]; rfl
    simp
    refine X_keep hx (by simp)
  | succ r ih =>
    intro i H e hk hp1 hx
    have hi : i < l.length := by omega
    obtain ⟨x, hxi⟩ : ∃ x, l[i]? = some x := ⟨_, List.getElem?_eq_getElem hi⟩
    have hat := (at_at hp hxi).1
    have q3 := next_i (m := i) (by omega)
    have c4 : ((i : Nat) : Int) < (l.length : Nat) := by omega
    have hall := all69 (b1 := x.1) (b2 := x.2) hk
    rw [hasA_drop n hxi] at hp1 hx
    have hk2 : (H ++ [.box (some 48) [.pv (.str x.1), .pv (.str x.2)]])[kk]? = some (.box (some 48) [.pv (.str n), .pv (.str v)]) := by rw [List.getElem?_append_left (List.getElem?_eq_some_iff.1 hk).1]; exact hk
    apply X_loop_of
    · simp only [loopN, Tryz.f82, loopsOf, List.nil_append, List.append_nil, List.cons_append, List.getD_cons_succ, List.getD_cons_zero]; rfl
    by_cases hb : x.1 = n
    · rw [decide_eq_true hb] at hall hp1
      simp [-Int.natCast_add, -Int.not_lt, -Int.not_le, -aIndexAddr, -getElem?_pos, T82_eq, q3, c4, hi, hat, hall]
      exact hp1 rfl i _
    · rw [decide_eq_false hb] at hall hp1 hx
      simp [-Int.natCast_add, -Int.not_lt, -Int.not_le, -aIndexAddr, -getElem?_pos, T82_eq, q3, c4, hi, hat, hall]
      refine X_keep (ih (i + 1) _ (by omega) hk2 (fun h j G => ?_) (fun h G => ?_)) ?_
      · rw [List.append_assoc]; exact hp1 (by simpa using h) j _
      · rw [List.append_assoc]; exact hx (by simpa using h) _
      · simp
theorem x82 {H : List Blk} {kk : Nat} {n v : Bs} {p : PV} {l : List (Bs × Bs)} (hp : atP p = some l) (hl : l.length ≤ 1000000) (hk : H[kk]? = some (.box (some 48) [.pv (.str n), .pv (.str v)])) :
    XFn Y T82 Tryz.f82 [.pv p, .clo 69 [.ptr kk 0]] H (fun x => (∃ j : Int, x.1 = .i j ∧ decide (0 ≤ j) = hasA l n) ∧ ∃ G, x.2 = H ++ G) := by
  unfold XFn Tryz.f82
  rw [enter_2 _ (by decide)]
  have hlen := (at_len hp).1
  simp [-outR, -aLen, hlen]
  refine X_keep (loop82 (n := n) (v := v) hp hl l.length 0 H (by omega) hk (fun h j G => ?_) (fun h G => ?_)) ?_
  · rw [List.drop_zero] at h
    exact ⟨⟨j, rfl, by rw [h]; simp⟩, G, rfl⟩
  · rw [List.drop_zero] at h
    simp [h]
  · simp
theorem all82 {H : List Blk} {kk : Nat} {n v : Bs} {p : PV} {l : List (Bs × Bs)} (hp : atP p = some l) (hl : l.length ≤ 1000000) (hk : H[kk]? = some (.box (some 48) [.pv (.str n), .pv (.str v)])) :
    ∃ (j : Int) (G : List Blk), arunAll Y T82 Tryz.f82 [.pv p, .clo 69 [.ptr kk 0]] H = some (.i j, H ++ G) ∧ decide (0 ≤ j) = hasA l n := by
  obtain ⟨r, H', h1, ⟨j, h2, h3⟩, G, h4⟩ := all_of_XFn (by rfl) (x82 hp hl hk)
  simp only at h2 h4
  subst h2 h4
  exact ⟨j, G, h1, h3⟩
noncomputable def T68 : FuncId → Option Pm.Spec := tab [(82, .heap (arunAll Y T82 Tryz.f82))]
theorem T68_eq (g : Nat) : T68 g = tab [(82, .heap (arunAll Y T82 Tryz.f82))] g := rfl
theorem meets68 (W0 : World) : Enterable Tryz.prog 68 ∧ Meets Tryz.prog W0 68 (specFn (.heap (arunAll Y T68 Tryz.f68))) := meets_heap env (tok_cons (meets82 W0) tok_nil) mixed Tryz.func68 (by kernel_rfl) (by kernel_rfl)
theorem x68 {H : List Blk} {kk : Nat} {n v : Bs} {p : PV} {l : List (Bs × Bs)} (hp : atP p = some l) (hl : l.length ≤ 1000000) (hk : H[kk]? = some (.box (some 48) [.pv (.str n), .pv (.str v)])) :
    XFn Y T68 Tryz.f68 [.pv p, .clo 69 [.ptr kk 0]] H (fun x => x.1 = .bool (hasA l n) ∧ ∃ G, x.2 = H ++ G) := by
  unfold XFn Tryz.f68
  rw [enter_2 _ (by decide)]
  obtain ⟨j, G, h1, h2⟩ := all82 hp hl hk
  simp [T68_eq, h1, ← h2]
theorem all68 {H : List Blk} {kk : Nat} {n v : Bs} {p : PV} {l : List (Bs × Bs)} (hp : atP p = some l) (hl : l.length ≤ 1000000) (hk : H[kk]? = some (.box (some 48) [.pv (.str n), .pv (.str v)])) :
    ∃ G : List Blk, arunAll Y T68 Tryz.f68 [.pv p, .clo 69 [.ptr kk 0]] H = some (.bool (hasA l n), H ++ G) := by
  obtain ⟨r, H', h1, h2, G, h4⟩ := all_of_XFn (by rfl) (x68 hp hl hk)
  simp only at h2 h4
  subst h2 h4
  exact ⟨G, h1⟩
/-- The first error of the attributes from one on, and of an element without its children. -/
def attrE : List (Bs × Bs) → List (Bs × Bs) → Int
  | _, [] => 0
  | pre, a :: r => if isName a.1 = false then 12 else if hasA pre a.1 = true then 7 else if dataE a.2 ≠ 0 then dataE a.2 else attrE (pre ++ [a]) r
def ownE (n : Nd) : Int :=
  if isName n.name = false then 12 else if 32 < n.attrs.length then 9 else if attrE [] n.attrs ≠ 0 then attrE [] n.attrs else if n.text ≠ [] ∧ n.kids ≠ [] then 10 else dataE n.text
noncomputable def T50 : FuncId → Option Pm.Spec := tab [(20, .pure false F20), (68, .heap (arunAll Y T68 Tryz.f68)), (70, .pure false F70)]
theorem T50_eq (g : Nat) : T50 g = tab [(20, .pure false F20), (68, .heap (arunAll Y T68 Tryz.f68)), (70, .pure false F70)] g := rfl
theorem tok50 (W0 : World) : TOk Tryz.prog W0 T50 := tok_cons (meets20 W0) (tok_cons (meets68 W0) (tok_cons (meets70 W0) tok_nil))
theorem dataE_cases (s : Bs) : dataE s = 0 ∨ dataE s = 5 ∨ dataE s = 6 := by unfold dataE; split <;> (try split) <;> simp
theorem attrE_step {l : List (Bs × Bs)} {i : Nat} {x : Bs × Bs} (h : l[i]? = some x) : attrE (l.take i) (l.drop i) =
    if isName x.1 = false then 12 else if hasA (l.take i) x.1 = true then 7 else if dataE x.2 ≠ 0 then dataE x.2 else attrE (l.take (i + 1)) (l.drop (i + 1)) := by
  obtain ⟨h1, h2⟩ := List.getElem?_eq_some_iff.1 h
  rw [List.drop_eq_getElem_cons h1, h2, attrE]
  have : l.take (i + 1) = l.take i ++ [x] := by rw [List.take_add_one, h]; rfl
  rw [this]
theorem loop50 {F : List Fr} {P : SV × List Blk → Prop} {nm tx : Bs} {k : PV} {p : PV} {l : List (Bs × Bs)} (hp : atP p = some l) (hl : l.length ≤ 32) : ∀ (r i : Nat) (H : List Blk), i + r = l.length →
    H[0]? = some (.box (some 33) [.pv (.str nm), .pv p, .pv (.str tx), .pv k]) →
    (attrE (l.take i) (l.drop i) ≠ 0 → ∀ G, P (.i (attrE (l.take i) (l.drop i)), H ++ G)) →
    (attrE (l.take i) (l.drop i) = 0 → ∀ G, X Y T50 [.tmp 2] F (.exit 1) ⟨mk 55 .J [(1, .ptr 0 0)], H ++ G⟩ P) →
    X Y T50 [.tmp 2] F (.loop (loopN Tryz.f50 0)) ⟨mk 55 .J [(1, .ptr 0 0), (17, .pv p), (18, .i (l.length : Nat)), (19, .i (i : Nat))], H⟩ P := by
  intro r
  induction r with
  | zero =>
    intro i H e h0 hp1 hx
    have e1 : i = l.length := by omega
    subst e1
    have hx := hx (by rw [List.drop_of_length_le (Nat.le_refl _)]; rfl) []
    rw [List.append_nil] at hx
    apply X_loop_of
    · simp only [loopN, Tryz.f50, loopsOf, List.nil_append, List.append_nil, List.cons_append, List.getD_cons_succ, List.getD_cons_zero]; rfl
    simp
    refine X_keep hx (by simp)
  | succ r ih =>
    intro i H e h0 hp1 hx
    have hi : i < l.length := by omega
    obtain ⟨x, hxi⟩ : ∃ x, l[i]? = some x := ⟨_, List.getElem?_eq_getElem hi⟩
    have hat := (at_at hp hxi).1
    obtain rfl : p = .slice 2 (l.map atRow) := by
      rcases atP_or hp with ⟨rfl, _⟩ | h
      · simp at hi
      · exact h
    have q3 := next_i (m := i) (by omega)
    have c4 : ((i : Nat) : Int) < (l.length : Nat) := by omega
    have c5 : i ≤ l.length := by omega
    have c3 : ((i : Nat) : Int).toNat = i := by omega
    rw [attrE_step hxi] at hp1 hx
    obtain ⟨G, hall⟩ := all68 (H := H ++ [.box (some 48) [.pv (.str x.1), .pv (.str x.2)]]) (kk := H.length) (n := x.1) (v := x.2) (atP_take (l := l) i) (by rw [List.length_take]; omega) (get_last _ _)
    have h0' : (H ++ [.box (some 48) [.pv (.str x.1), .pv (.str x.2)]])[0]? = some (.box (some 33) [.pv (.str nm), .pv (.slice 2 (l.map atRow)), .pv (.str tx), .pv k]) := by rw [List.getElem?_append_left (List.getElem?_eq_some_iff.1 h0).1]; exact h0
    have h0'' : ∀ G', (H ++ G')[0]? = some (.box (some 33) [.pv (.str nm), .pv (.slice 2 (l.map atRow)), .pv (.str tx), .pv k]) := fun G' => by rw [List.getElem?_append_left (List.getElem?_eq_some_iff.1 h0).1]; exact h0
    have hk2 : ((H ++ [.box (some 48) [.pv (.str x.1), .pv (.str x.2)]]) ++ G)[H.length]? = some (.box (some 48) [.pv (.str x.1), .pv (.str x.2)]) := by rw [List.getElem?_append_left (by simp)]; exact get_last _ _
    rw [List.append_assoc, List.singleton_append] at hk2
    have hb := unAt_rows l
    have hrl : (l.map atRow).length = l.length := by simp
    generalize l.map atRow = rows at *
    apply X_loop_of
    · simp only [loopN, Tryz.f50, loopsOf, List.nil_append, List.append_nil, List.cons_append, List.getD_cons_succ, List.getD_cons_zero]; rfl
    by_cases hn : isName x.1 = false
    · rw [if_pos hn] at hp1
      simp [-Int.natCast_add, -Int.not_lt, -Int.not_le, -aIndexAddr, -getElem?_pos, List.getElem?_cons_zero, List.getElem?_cons_succ, T50_eq, F20, q3, c4, hi, hat, get_last, set_last, hn]
      exact hp1 (by decide) _
    · have hn1 : isName x.1 = true := by simpa using hn
      rw [if_neg hn] at hp1 hx
      by_cases hd : hasA (l.take i) x.1 = true
      · rw [if_pos hd] at hp1
        rw [hd] at hall
        simp [-Int.natCast_add, -Int.not_lt, -Int.not_le, -aIndexAddr, -getElem?_pos, List.getElem?_cons_zero, List.getElem?_cons_succ, T50_eq, F20, q3, c4, c5, c3, hi, hat, get_last, set_last, hn1, h0', hrl, hall]
        exact hp1 (by decide) _
      · have hd1 : hasA (l.take i) x.1 = false := by simpa using hd
        rw [if_neg hd] at hp1 hx
        rw [hd1] at hall
        by_cases he : dataE x.2 = 0
        · rw [if_neg (by simp [he])] at hp1 hx
          simp [-Int.natCast_add, -Int.not_lt, -Int.not_le, -aIndexAddr, -getElem?_pos, List.getElem?_cons_zero, List.getElem?_cons_succ, T50_eq, F20, F70, q3, c4, c5, c3, hi, hat, get_last, set_last, hn1, h0', hrl, hall, hk2, he]
          refine X_keep (ih (i + 1) _ (by omega) (h0'' _) (fun h G' => ?_) (fun h G' => ?_)) ?_
          · rw [List.append_assoc]; exact hp1 h _
          · rw [List.append_assoc]; exact hx h _
          · simp
        · rw [if_pos he] at hp1
          simp [-Int.natCast_add, -Int.not_lt, -Int.not_le, -aIndexAddr, -getElem?_pos, List.getElem?_cons_zero, List.getElem?_cons_succ, T50_eq, F20, F70, q3, c4, c5, c3, hi, hat, get_last, set_last, hn1, h0', hrl, hall, hk2, he, bneZ]
          exact hp1 he _
theorem x50 {a k : PV} {n : Nd} (ha : atP a = some n.attrs) (hk : kidP k = some n.kids) : XFn Y T50 Tryz.f50 [nodeS n.name a n.text k] [] (Is (.i (ownE n))) := by
  unfold XFn Tryz.f50
  rw [enter_1 _ (by decide)]
  have hal := (at_len ha).1
  have hkl := (kid_len hk).1
  by_cases hn : isName n.name = false
  · simp [T50_eq, F20, hn, ownE]
  have hn1 : isName n.name = true := by simpa using hn
  by_cases h32 : 32 < n.attrs.length
  · have c1 : (32 : Int) < (n.attrs.length : Nat) := by omega
    simp [-Int.not_lt, -Int.not_le, -aLen, T50_eq, F20, hn1, hal, c1, h32, ownE]
  have c1 : ¬ (32 : Int) < (n.attrs.length : Nat) := by omega
  have L := fun F P H h0 => loop50 (F := F) (P := P) (nm := n.name) (tx := n.text) (k := k) ha (by omega) n.attrs.length 0 H (by omega) h0
  simp only [List.take_zero, List.drop_zero] at L
  simp [-Int.not_lt, -Int.not_le, -aLen, -outR, T50_eq, F20, hn1, hal, c1, h32]
  refine X_keep (L _ _ _ rfl (fun h G => ?_) (fun h G => ?_)) (by simp)
  · have ho : ownE n = attrE [] n.attrs := by unfold ownE; rw [if_neg hn, if_neg h32, if_pos h]
    simp [ho]
  · have ho : ownE n = if n.text ≠ [] ∧ n.kids ≠ [] then 10 else dataE n.text := by unfold ownE; rw [if_neg hn, if_neg h32, if_neg (by simp [h])]
    by_cases ht : n.text = []
    · simp [-Int.not_lt, -Int.not_le, -aLen, T50_eq, F70, ho, ht]
    · by_cases hkk : n.kids = []
      · have hkl0 : aLen Y 31 (.pv k) = some 0 := by rw [hkl, hkk]; rfl
        simp [-Int.not_lt, -Int.not_le, -aLen, T50_eq, F70, ho, ht, hkk, hkl0]
      · have c2 : (0 : Int) < (n.kids.length : Nat) := by
          have : n.kids.length ≠ 0 := fun h => hkk (List.length_eq_zero_iff.1 h)
          omega
        have c3 : 0 < n.kids.length := by omega
        simp [-Int.not_lt, -Int.not_le, -aLen, T50_eq, F70, ho, ht, hkk, hkl, c2, c3]
def F50 : List SV → Option SV
  | [v] => match argN v with
    | some n => some (.i (ownE n))
    | none => none
  | _ => none
theorem F50_ok {v : SV} {n : Nd} (h : argN v = some n) : F50 [v] = some (.i (ownE n)) := by simp only [F50, h]
theorem meets50 (W0 : World) : OkAt W0 50 F50 := meets_fn env (tok50 W0) mixed Tryz.func50 (by kernel_rfl) (by kernel_rfl) fun args r h => by
  unfold F50 at h
  split at h
  · split at h
    · rename_i n hn
      cases h
      obtain ⟨a, k, rfl, ha, hk⟩ := argN_or hn
      exact x50 ha hk
    · cases h
  · cases h
end Go.Proofs.YtkckpmcpmngiiaaGreatDoor
/- Whether a tree fits, and the first error in it, by the machine. -/
set_option linter.unusedSimpArgs false
set_option linter.unusedVariables false
set_option maxRecDepth 1000000
set_option maxHeartbeats 400000
namespace Go.Proofs.YtkckpmcpmngiiaaGreatDoor
open Go Go.Pm Go.RowKit
mutual
def Nd.eachE : Nd → Int
  | .mk a b c ks => if ownE (.mk a b c ks) ≠ 0 then ownE (.mk a b c ks) else eachL ks
def eachL : List Nd → Int
  | [] => 0
  | k :: r => if k.eachE ≠ 0 then k.eachE else eachL r
end
theorem each_eq (n : Nd) : n.eachE = if ownE n ≠ 0 then ownE n else eachL n.kids := by cases n; simp only [Nd.eachE, Nd.kids]
def F49n (m : Nat) : List SV → Option SV
  | [v, .pv (.fn 50)] => match argN v with
    | some n => if n.count ≤ m ∧ n.count ≤ 1000000 then some (.i n.eachE) else none
    | none => none
  | _ => none
theorem F49n_ok {m : Nat} {v : SV} {n : Nd} (h : argN v = some n) (h1 : n.count ≤ m) (h2 : n.count ≤ 1000000) : F49n m [v, .pv (.fn 50)] = some (.i n.eachE) := by
  simp only [F49n, h]; rw [if_pos ⟨h1, h2⟩]
theorem of_F49n {m : Nat} {args : List SV} {r : SV} {Q : Prop} (h : F49n m args = some r) (k : ∀ a k n, atP a = some (Nd.attrs n) → kidP k = some n.kids → args = [nodeS n.name a n.text k, .pv (.fn 50)] → r = .i n.eachE → n.count ≤ m → n.count ≤ 1000000 → Q) : Q := by
  unfold F49n at h
  split at h
  · split at h
    · rename_i n hn
      split at h
      · rename_i hc
        cases h
        obtain ⟨a, kk, e, h1, h2⟩ := argN_or hn
        exact k a kk n h1 h2 (by rw [e]) rfl hc.1 hc.2
      · cases h
    · cases h
  · cases h
noncomputable def T49 (m : Nat) : FuncId → Option Pm.Spec := tab [(50, .pure false F50), (49, .pure false (F49n m))]
theorem T49_eq (m g : Nat) : T49 m g = tab [(50, .pure false F50), (49, .pure false (F49n m))] g := rfl
theorem loop49 {F : List Fr} {P : SV × List Blk → Prop} {m : Nat} {k : PV} {ks : List Nd} (hk : kidP k = some ks) (hm : ∀ n ∈ ks, n.count ≤ m) (hb : countL ks < 1000000) : ∀ (r i : Nat) (H : List Blk), i + r = ks.length →
    (eachL (ks.drop i) ≠ 0 → ∀ H, P (.i (eachL (ks.drop i)), H)) →
    (eachL (ks.drop i) = 0 → ∀ H, X Y (T49 m) [.tmp 4] F (.exit 0) ⟨mk 29 .J [], H⟩ P) →
    X Y (T49 m) [.tmp 4] F (.loop (loopN Tryz.f49 0)) ⟨mk 29 .J [(1, .pv (.fn 50)), (16, .pv k), (17, .i (ks.length : Nat)), (18, .i (i : Nat))], H⟩ P := by
  intro r
  induction r with
  | zero =>
    intro i H e hp hx
    have e1 : i = ks.length := by omega
    subst e1
    rw [List.drop_of_length_le (Nat.le_refl _)] at hx
    apply X_loop_of
    · simp only [loopN, Tryz.f49, loopsOf, List.nil_append, List.append_nil, List.cons_append, List.getD_cons_succ, List.getD_cons_zero]; rfl
    simp
    refine X_keep (hx (by simp only [eachL]) H) (by simp)
  | succ r ih =>
    intro i H e hp hx
    have hi : i < ks.length := by omega
    obtain ⟨n, hn⟩ : ∃ n, ks[i]? = some n := ⟨_, List.getElem?_eq_getElem hi⟩
    have hmem := List.mem_of_getElem? hn
    obtain ⟨nm, a, tx, k', hat, -, hv⟩ := kid_at hk hn
    have hc := count_kid hmem
    have f1 := F49n_ok hv (hm n hmem) (by omega)
    rw [drop_kid hn, eachL] at hp hx
    have hlen := countL_ge ks
    have q3 := next_i (m := i) (by omega)
    have c4 : ((i : Nat) : Int) < (ks.length : Nat) := by omega
    apply X_loop_of
    · simp only [loopN, Tryz.f49, loopsOf, List.nil_append, List.append_nil, List.cons_append, List.getD_cons_succ, List.getD_cons_zero]; rfl
    by_cases he : n.eachE = 0
    · rw [if_neg (by simp [he])] at hp hx
      simp [-Int.natCast_add, -Int.not_lt, -Int.not_le, -aIndexAddr, -getElem?_pos, List.getElem?_cons_zero, List.getElem?_cons_succ, T49_eq, q3, c4, hi, hat, f1, get_last, set_last, he]
      refine X_keep (ih (i + 1) _ (by omega) hp hx) ?_
      simp
    · rw [if_pos he] at hp
      simp [-Int.natCast_add, -Int.not_lt, -Int.not_le, -aIndexAddr, -getElem?_pos, List.getElem?_cons_zero, List.getElem?_cons_succ, T49_eq, q3, c4, hi, hat, f1, get_last, set_last, he, bneZ]
      exact hp he _
theorem x49 {m : Nat} {a k : PV} {n : Nd} (ha : atP a = some n.attrs) (hk : kidP k = some n.kids) (h1 : n.count ≤ m + 1) (h2 : n.count ≤ 1000000) : XFn Y (T49 m) Tryz.f49 [nodeS n.name a n.text k, .pv (.fn 50)] [] (Is (.i n.eachE)) := by
  unfold XFn Tryz.f49
  rw [enter_2 _ (by decide)]
  have hl := (kid_len hk).1
  have he := count_eq n
  have f1 : F50 [nodeS n.name a n.text k] = some (.i (ownE n)) := F50_ok (by have := argN_mk (nm := n.name) (tx := n.text) ha hk; cases n; exact this)
  have ee := each_eq n
  by_cases ho : ownE n = 0
  · rw [if_neg (by simp [ho])] at ee
    have L := fun F P H => loop49 (F := F) (P := P) hk (m := m) (fun x hx => by have := count_kid hx; omega) (by omega) n.kids.length 0 H (by omega)
    simp only [List.drop_zero] at L
    simp [-Int.natCast_add, -outR, -aLen, hl, T49_eq, f1, ho]
    refine X_keep (L _ _ _ (fun h H => ?_) (fun h H => ?_)) (by simp)
    · simp [ee]
    · simp [ee, h]
  · rw [if_pos ho] at ee
    simp [-Int.natCast_add, -aLen, hl, T49_eq, f1, ho, bneZ, ee]
theorem meets49n (W0 : World) : ∀ m, OkAt W0 49 (F49n m)
  | 0 => meets_fn env tok_nil mixed Tryz.func49 (by kernel_rfl) (by kernel_rfl) fun args r h => by
    refine of_F49n h fun a k n _ _ _ _ h1 _ => ?_
    have := count_pos n; omega
  | m + 1 => meets_fn env (tok_cons (meets50 W0) (tok_cons (meets49n W0 m) tok_nil)) mixed Tryz.func49 (by kernel_rfl) (by kernel_rfl) fun args r h => by
    refine of_F49n h fun a k n ha hk e1 e2 h1 h2 => ?_
    subst e1; subst e2
    exact x49 ha hk h1 h2
def F49 : List SV → Option SV
  | [v, .pv (.fn 50)] => match argN v with
    | some n => if n.count ≤ 1000000 then some (.i n.eachE) else none
    | none => none
  | _ => none
theorem F49_ok {v : SV} {n : Nd} (h : argN v = some n) (h2 : n.count ≤ 1000000) : F49 [v, .pv (.fn 50)] = some (.i n.eachE) := by
  simp only [F49, h]; rw [if_pos h2]
theorem meets49 (W0 : World) : OkAt W0 49 F49 := OkAt.all (meets49n W0) fun as1 r h => by
  unfold F49 at h
  split at h
  · split at h
    · rename_i n hn
      split at h
      · rename_i hc; cases h; exact ⟨n.count, F49n_ok hn (Nat.le_refl _) hc⟩
      · cases h
    · cases h
  · cases h
/-- Does it fit? -/
noncomputable def A48 : Nat → List SV → List Blk → Option (SV × List Blk)
  | 0 => fun _ _ => none
  | m + 1 => arunAll Y (tab [(48, .heap (A48 m))]) Tryz.f48
noncomputable def T48 (m : Nat) : FuncId → Option Pm.Spec := tab [(48, .heap (A48 m))]
theorem T48_eq (m g : Nat) : T48 m g = tab [(48, .heap (A48 m))] g := rfl
theorem meets48 (W0 : World) : ∀ m, Enterable Tryz.prog 48 ∧ Meets Tryz.prog W0 48 (specFn (.heap (A48 m)))
  | 0 => ⟨enterable_of Tryz.func48 (by kernel_rfl), fun C args vs r H' h => by simp only [specFn, A48] at h; cases h⟩
  | m + 1 => meets_heap env (tok_cons (meets48 W0 m) tok_nil) mixed Tryz.func48 (by kernel_rfl) (by kernel_rfl)
theorem fwR (w : Nat) (H : List Blk) : FrameW w H H := ⟨Nat.le_refl _, fun _ _ _ => rfl⟩
theorem fwT {w : Nat} {A B C : List Blk} (h : FrameW w A B) (k : FrameW w B C) : FrameW w A C := ⟨Nat.le_trans h.1 k.1, fun j hj hw => (k.2 j (Nat.lt_of_lt_of_le hj h.1) hw).trans (h.2 j hj hw)⟩
theorem fwA (w : Nat) (H G : List Blk) : FrameW w H (H ++ G) := ⟨by simp, fun j hj _ => List.getElem?_append_left hj⟩
theorem fwS (w : Nat) (H : List Blk) (b : Blk) : FrameW w H (H.set w b) := ⟨by simp, fun j _ hw => List.getElem?_set_ne (Ne.symm hw)⟩
def Fits (kk : Nat) (lv nd : Nat) (n : Nd) (H : List Blk) (x : SV × List Blk) : Prop :=
  x.1 = .bool (decide (n.depth ≤ lv ∧ n.count ≤ nd)) ∧ FrameW kk H x.2 ∧ (n.depth ≤ lv ∧ n.count ≤ nd → x.2[kk]? = some (.box (some 3) [.i ((nd - n.count : Nat) : Int)]))
theorem loop48 {F : List Fr} {P : SV × List Blk → Prop} {m kk lv : Nat} {k : PV} {ks : List Nd} (hk : kidP k = some ks) (hlv : lv ≤ 32) (hlen : ks.length ≤ 1000000)
    (hA : ∀ (n : Nd) (v : SV) (nd : Nat) (H : List Blk), argN v = some n → nd ≤ 65536 → n ∈ ks → H[kk]? = some (.box (some 3) [.i (nd : Nat)]) → ∃ x, A48 m [v, .i (lv : Nat), .ptr kk 0] H = some x ∧ Fits kk lv nd n H x) : ∀ (r i : Nat) (H : List Blk) (nd : Nat), i + r = ks.length → nd ≤ 65536 →
    H[kk]? = some (.box (some 3) [.i (nd : Nat)]) →
    (¬ (depthL (ks.drop i) ≤ lv ∧ countL (ks.drop i) ≤ nd) → ∀ H', FrameW kk H H' → P (.bool false, H')) →
    (depthL (ks.drop i) ≤ lv ∧ countL (ks.drop i) ≤ nd → ∀ H', FrameW kk H H' → H'[kk]? = some (.box (some 3) [.i ((nd - countL (ks.drop i) : Nat) : Int)]) → X Y (T48 m) [.tmp 6] F (.exit 0) ⟨mk 36 .J [], H'⟩ P) →
    X Y (T48 m) [.tmp 6] F (.loop (loopN Tryz.f48 0)) ⟨mk 36 .J [(1, .i (lv + 1 : Nat)), (2, .ptr kk 0), (23, .pv k), (24, .i (ks.length : Nat)), (25, .i (i : Nat))], H⟩ P := by
  intro r
  induction r with
  | zero =>
    intro i H nd e hnd h0 hp hx
    have e1 : i = ks.length := by omega
    subst e1
    rw [List.drop_of_length_le (Nat.le_refl _)] at hx
    apply X_loop_of
    · simp only [loopN, Tryz.f48, loopsOf, List.nil_append, List.append_nil, List.cons_append, List.getD_cons_succ, List.getD_cons_zero]; rfl
    simp
    refine X_keep (hx ⟨by simp [depthL], by simp [countL]⟩ H (fwR _ _) (by simpa [countL] using h0)) (by simp)
  | succ r ih =>
    intro i H nd e hnd h0 hp hx
    have hi : i < ks.length := by omega
    obtain ⟨n, hn⟩ : ∃ n, ks[i]? = some n := ⟨_, List.getElem?_eq_getElem hi⟩
    have hmem := List.mem_of_getElem? hn
    obtain ⟨nm, a, tx, k', hat, -, hv⟩ := kid_at hk hn
    rw [drop_kid hn, depthL, countL] at hp hx
    have q3 := next_i (m := i) (by omega)
    have c4 : ((i : Nat) : Int) < (ks.length : Nat) := by omega
    have w1 : IntKind.i64.wrap (((lv + 1 : Nat) : Int) - 1) = (lv : Nat) := by rw [wrap64 (by omega) (by omega)]; omega
    have h0' : (H ++ [.box (some 33) [.pv (.str nm), .pv a, .pv (.str tx), .pv k']])[kk]? = some (.box (some 3) [.i (nd : Nat)]) := by rw [List.getElem?_append_left (List.getElem?_eq_some_iff.1 h0).1]; exact h0
    obtain ⟨⟨v', H'⟩, hx1, hx2, hx4, hx3⟩ := hA n _ nd _ hv hnd hmem h0'
    simp only at hx2 hx3 hx4
    subst hx2
    have hfr : FrameW kk H H' := fwT (fwA _ _ _) hx4
    apply X_loop_of
    · simp only [loopN, Tryz.f48, loopsOf, List.nil_append, List.append_nil, List.cons_append, List.getD_cons_succ, List.getD_cons_zero]; rfl
    by_cases hf : n.depth ≤ lv ∧ n.count ≤ nd
    · rw [decide_eq_true hf] at hx1
      have hk2 := hx3 hf
      simp [-Int.natCast_add, -Int.not_lt, -Int.not_le, -aIndexAddr, -getElem?_pos, List.getElem?_cons_zero, List.getElem?_cons_succ, T48_eq, q3, c4, hi, hat, w1, hx1, get_last, set_last]
      refine X_keep (ih (i + 1) _ (nd - n.count) (by omega) (by omega) hk2 (fun h H'' f => hp (by omega) H'' (fwT hfr f)) (fun h H'' f h' => hx (by omega) H'' (fwT hfr f) (by rw [Nat.sub_add_eq]; exact h'))) ?_
      simp
    · rw [decide_eq_false hf] at hx1
      simp [-Int.natCast_add, -Int.not_lt, -Int.not_le, -aIndexAddr, -getElem?_pos, List.getElem?_cons_zero, List.getElem?_cons_succ, T48_eq, q3, c4, hi, hat, w1, hx1, get_last, set_last]
      exact hp (by omega) _ hfr
theorem x48 {m kk lv : Nat} {a k : PV} {n : Nd} {nd : Nat} {H : List Blk} (hk : kidP k = some n.kids) (hlv : lv ≤ 32) (hb : n.count ≤ 1000000) (hnd : nd ≤ 65536) (h0 : H[kk]? = some (.box (some 3) [.i (nd : Nat)]))
    (hA : ∀ (lv' : Nat), lv = lv' + 1 → ∀ (c : Nd) (v : SV) (nd : Nat) (H : List Blk), argN v = some c → nd ≤ 65536 → c ∈ n.kids → H[kk]? = some (.box (some 3) [.i (nd : Nat)]) → ∃ x, A48 m [v, .i (lv' : Nat), .ptr kk 0] H = some x ∧ Fits kk lv' nd c H x) :
    XFn Y (T48 m) Tryz.f48 [nodeS n.name a n.text k, .i (lv : Nat), .ptr kk 0] H (fun x => Fits kk lv nd n H x) := by
  unfold XFn Tryz.f48
  rw [enter_3 _ (by decide)]
  have hl := (kid_len hk).1
  have he := count_eq n
  have hd := depth_eq n
  have hlen := countL_ge n.kids
  have hlt := (List.getElem?_eq_some_iff.1 h0).1
  have h0' : (H ++ [.box (some 33) [.pv (.str n.name), .pv a, .pv (.str n.text), .pv k]])[kk]? = some (.box (some 3) [.i (nd : Nat)]) := by rw [List.getElem?_append_left hlt]; exact h0
  have hlt' : kk < (H ++ [Blk.box (some 33) [.pv (.str n.name), .pv a, .pv (.str n.text), .pv k]]).length := by simp; omega
  have w1 : IntKind.i64.wrap (((nd : Nat) : Int) - 1) = (nd : Int) - 1 := wrap64 (by omega) (by omega)
  have hlt2 : kk < H.length + 1 := by omega
  have w2 : IntKind.i64.wrap (-1) = -1 := rfl
  have hs : ∀ b, ((H ++ [Blk.box (some 33) [.pv (.str n.name), .pv a, .pv (.str n.text), .pv k]]).set kk b)[kk]? = some b := fun b => by rw [List.getElem?_set_self hlt']
  have hb2 : ∀ b, ((H ++ [Blk.box (some 33) [.pv (.str n.name), .pv a, .pv (.str n.text), .pv k]]).set kk b)[H.length]? = some (.box (some 33) [.pv (.str n.name), .pv a, .pv (.str n.text), .pv k]) := fun b => by rw [List.getElem?_set_ne (by omega)]; exact get_last _ _
  have hfr : ∀ b, FrameW kk H ((H ++ [Blk.box (some 33) [.pv (.str n.name), .pv a, .pv (.str n.text), .pv k]]).set kk b) := fun b => fwT (fwA _ _ _) (fwS _ _ _)
  cases lv with
  | zero =>
    simp [-Int.natCast_add, -Int.not_lt, -Int.not_le, -aLen, -getElem?_pos, List.getElem?_cons_zero, List.getElem?_cons_succ, h0', w1, hlt', hlt2, w2, hs]
    refine ⟨?_, hfr _, fun h => by omega⟩
    simp; omega
  | succ lv =>
    have c0 : ¬ ((lv + 1 : Nat) : Int) = 0 := by omega
    by_cases h1 : nd = 0
    · subst h1
      have c1 : ((0 : Nat) : Int) - 1 < 0 := by decide
      simp [-Int.natCast_add, -Int.not_lt, -Int.not_le, -aLen, -getElem?_pos, List.getElem?_cons_zero, List.getElem?_cons_succ, h0', w1, hlt', hlt2, w2, hs, c0, c1, beqZ]
      refine ⟨?_, hfr _, fun h => by omega⟩
      simp; omega
    · have c1 : ¬ ((nd : Nat) : Int) - 1 < 0 := by omega
      have e1 : ((nd : Nat) : Int) - 1 = ((nd - 1 : Nat) : Int) := by omega
      have L := fun F P H h => loop48 (F := F) (P := P) (m := m) (kk := kk) (lv := lv) hk (by omega) (by omega) (hA lv rfl) n.kids.length 0 H (nd - 1) (by omega) (by omega) h
      simp only [List.drop_zero] at L
      simp [-Int.natCast_add, -Int.not_lt, -Int.not_le, -outR, -aLen, -getElem?_pos, List.getElem?_cons_zero, List.getElem?_cons_succ, hl, h0', w1, hlt', hlt2, w2, hs, hb2, c0, c1, beqZ]
      refine X_keep (L _ _ ((H ++ [Blk.box (some 33) [.pv (.str n.name), .pv a, .pv (.str n.text), .pv k]]).set kk (.box (some 3) [.i (((nd : Nat) : Int) - 1)])) (by rw [hs, e1]) (fun h H' f => ?_) (fun h H' f h' => ?_)) ?_
      · refine ⟨?_, fwT (hfr _) f, fun h => by omega⟩
        simp; omega
      · simp
        refine ⟨?_, fwT (hfr _) f, fun _ => ?_⟩
        · simp; omega
        · simp only []
          rw [h']
          simp; omega
      · simp
theorem all48 : ∀ (m lv : Nat) (n : Nd) (v : SV) (nd : Nat) (H : List Blk) (kk : Nat), lv < m → lv ≤ 32 → n.count ≤ 1000000 → argN v = some n → nd ≤ 65536 → H[kk]? = some (.box (some 3) [.i (nd : Nat)]) →
    ∃ x, A48 m [v, .i (lv : Nat), .ptr kk 0] H = some x ∧ Fits kk lv nd n H x
  | 0, lv, n, v, nd, H, kk, h, _, _, _, _, _ => by omega
  | m + 1, lv, n, v, nd, H, kk, h1, h2, h3, h4, h5, h6 => by
    obtain ⟨a, k, rfl, ha, hk⟩ := argN_or h4
    have hc := count_eq n
    obtain ⟨r, H', e, hf⟩ := all_of_XFn (by rfl) (x48 (m := m) (a := a) hk h2 h3 h5 h6 fun lv' e c v nd H hv hnd hc' hH => all48 m lv' c v nd H kk (by omega) (by omega) (by have := count_kid hc'; omega) hv hnd hH)
    exact ⟨(r, H'), e, hf⟩
/-- Check. -/
def chkE (n : Nd) : Int := if n.depth ≤ 32 ∧ n.count ≤ 65536 then n.eachE else 9
noncomputable def T22 : FuncId → Option Pm.Spec := tab [(48, .heap (A48 33)), (49, .pure false F49)]
theorem T22_eq (g : Nat) : T22 g = tab [(48, .heap (A48 33)), (49, .pure false F49)] g := rfl
theorem x22 {a k : PV} {n : Nd} (ha : atP a = some n.attrs) (hk : kidP k = some n.kids) (h2 : n.count ≤ 1000000) : XFn Y T22 Tryz.f22 [nodeS n.name a n.text k] [] (Is (.i (chkE n))) := by
  unfold XFn Tryz.f22
  rw [enter_1 _ (by decide)]
  have hv : argN (nodeS n.name a n.text k) = some n := by have := argN_mk (nm := n.name) (tx := n.text) ha hk; cases n; exact this
  obtain ⟨⟨v', H'⟩, h1, h3, hf, -⟩ := all48 33 32 n _ 65536 [.box (some 33) [.pv (.str n.name), .pv a, .pv (.str n.text), .pv k], .box (some 3) [.i (65536 : Nat)]] 1 (by omega) (by omega) h2 hv (by omega) rfl
  simp only at h3 hf
  subst h3
  have f1 := F49_ok hv h2
  have g0 := hf.2 0 (by simp) (by omega)
  simp only [List.getElem?_cons_zero] at g0
  have h1 : A48 33 [nodeS n.name a n.text k, .i 32, .ptr 1 0] [.box (some 33) [.pv (.str n.name), .pv a, .pv (.str n.text), .pv k], .box (some 3) [.i 65536]] = some (.bool (decide (n.depth ≤ 32 ∧ n.count ≤ 65536)), H') := h1
  by_cases h : n.depth ≤ 32 ∧ n.count ≤ 65536
  · rw [decide_eq_true h] at h1
    simp [-getElem?_pos, List.getElem?_cons_zero, List.getElem?_cons_succ, T22_eq, h1, f1, g0, chkE, h]
  · rw [decide_eq_false h] at h1
    simp [-getElem?_pos, List.getElem?_cons_zero, List.getElem?_cons_succ, T22_eq, h1, f1, g0, chkE, h]
def F22 : List SV → Option SV
  | [v] => match argN v with
    | some n => if n.count ≤ 1000000 then some (.i (chkE n)) else none
    | none => none
  | _ => none
theorem F22_ok {v : SV} {n : Nd} (h : argN v = some n) (h2 : n.count ≤ 1000000) : F22 [v] = some (.i (chkE n)) := by simp only [F22, h]; rw [if_pos h2]
theorem meets22 (W0 : World) : OkAt W0 22 F22 := meets_fn env (tok_cons (meets48 W0 33) (tok_cons (meets49 W0) tok_nil)) mixed Tryz.func22 (by kernel_rfl) (by kernel_rfl) fun args r h => by
  unfold F22 at h
  split at h
  · split at h
    · rename_i n hn
      split at h
      · rename_i hc
        cases h
        obtain ⟨a, k, rfl, ha, hk⟩ := argN_or hn
        exact x22 ha hk hc
      · cases h
    · cases h
  · cases h
end Go.Proofs.YtkckpmcpmngiiaaGreatDoor
/- The reference's check, by the machine. -/
set_option linter.unusedSimpArgs false
set_option linter.unusedVariables false
set_option maxRecDepth 1000000
set_option maxHeartbeats 400000
namespace Go.Proofs.YtkckpmcpmngiiaaGreatDoor
open Go Go.Pm Go.RowKit
def F51n (m : Nat) : List SV → Option SV
  | [v] => match argN v with
    | some n => if n.count ≤ m ∧ n.count ≤ 1000000 then some (.i n.eachE) else none
    | none => none
  | _ => none
theorem F51n_ok {m : Nat} {v : SV} {n : Nd} (h : argN v = some n) (h1 : n.count ≤ m) (h2 : n.count ≤ 1000000) : F51n m [v] = some (.i n.eachE) := by
  simp only [F51n, h]; rw [if_pos ⟨h1, h2⟩]
theorem of_F51n {m : Nat} {args : List SV} {r : SV} {Q : Prop} (h : F51n m args = some r) (k : ∀ a k n, atP a = some (Nd.attrs n) → kidP k = some n.kids → args = [nodeS n.name a n.text k] → r = .i n.eachE → n.count ≤ m → n.count ≤ 1000000 → Q) : Q := by
  unfold F51n at h
  split at h
  · split at h
    · rename_i n hn
      split at h
      · rename_i hc
        cases h
        obtain ⟨a, kk, e, h1, h2⟩ := argN_or hn
        exact k a kk n h1 h2 (by rw [e]) rfl hc.1 hc.2
      · cases h
    · cases h
  · cases h
noncomputable def T51 (m : Nat) : FuncId → Option Pm.Spec := tab [(21, .pure false F20), (71, .pure false F70), (51, .pure false (F51n m))]
theorem T51_eq (m g : Nat) : T51 m g = tab [(21, .pure false F20), (71, .pure false F70), (51, .pure false (F51n m))] g := rfl
abbrev ndB (nm : Bs) (a : PV) (tx : Bs) (k : PV) : Blk := .box (some 25) [.pv (.str nm), .pv a, .pv (.str tx), .pv k]
theorem loop51b {F : List Fr} {P : SV × List Blk → Prop} {m : Nat} {nm tx : Bs} {a k : PV} {l : List (Bs × Bs)} (ha : atP a = some l) (hl : l.length ≤ 32) {i : Nat} {x : Bs × Bs} (hx0 : l[i]? = some x) : ∀ (r q : Nat), q + r = i →
    (hasA ((l.take i).drop q) x.1 = true → P (.i 7, [ndB nm a tx k])) →
    (hasA ((l.take i).drop q) x.1 = false → X Y (T51 m) [.tmp 2] F (.exit 3) ⟨mk 93 .J [(1, .ptr 0 0), (3, .i (i : Nat))], [ndB nm a tx k]⟩ P) →
    X Y (T51 m) [.tmp 2] F (.loop (loopN Tryz.f51 1)) ⟨mk 93 .J [(1, .ptr 0 0), (3, .i (i : Nat)), (4, .i (q : Nat))], [ndB nm a tx k]⟩ P := by
  have hil := (List.getElem?_eq_some_iff.1 hx0).1
  intro r
  induction r with
  | zero =>
    intro q e hp hx
    have e1 : q = i := by omega
    subst e1
    have hx := hx (by rw [List.drop_of_length_le (by rw [List.length_take]; omega)]; rfl)
    apply X_loop_of
    · simp only [loopN, Tryz.f51, loopsOf, List.nil_append, List.append_nil, List.cons_append, List.getD_cons_succ, List.getD_cons_zero]; rfl
    simp
    refine X_keep hx (by simp)
  | succ r ih =>
    intro q e hp hx
    have hq : q < i := by omega
    obtain ⟨y, hy⟩ : ∃ y, l[q]? = some y := ⟨_, List.getElem?_eq_getElem (by omega)⟩
    have hyt : (l.take i)[q]? = some y := by rw [List.getElem?_take, if_pos hq]; exact hy
    have hat := (at_at ha hx0).2
    have hat2 := (at_at ha hy).2
    have q3 := next_i (m := q) (by omega)
    have c4 : ((q : Nat) : Int) < (i : Nat) := by omega
    rw [hasA_drop x.1 hyt] at hp hx
    apply X_loop_of
    · simp only [loopN, Tryz.f51, loopsOf, List.nil_append, List.append_nil, List.cons_append, List.getD_cons_succ, List.getD_cons_zero]; rfl
    by_cases hb : y.1 = x.1
    · rw [decide_eq_true hb] at hp
      simp [-Int.natCast_add, -Int.not_lt, -Int.not_le, -aIndexAddr, -getElem?_pos, List.getElem?_cons_zero, List.getElem?_cons_succ, q3, c4, hq, hat, hat2, hb]
      exact hp rfl
    · rw [decide_eq_false hb] at hp hx
      simp [-Int.natCast_add, -Int.not_lt, -Int.not_le, -aIndexAddr, -getElem?_pos, List.getElem?_cons_zero, List.getElem?_cons_succ, q3, c4, hq, hat, hat2, hb]
      refine X_keep (ih (q + 1) (by omega) (fun h => hp (by simpa using h)) (fun h => hx (by simpa using h))) ?_
      simp
theorem loop51a {F : List Fr} {P : SV × List Blk → Prop} {m : Nat} {nm tx : Bs} {a k : PV} {l : List (Bs × Bs)} (ha : atP a = some l) (hl : l.length ≤ 32) : ∀ (r i : Nat), i + r = l.length →
    (attrE (l.take i) (l.drop i) ≠ 0 → P (.i (attrE (l.take i) (l.drop i)), [ndB nm a tx k])) →
    (attrE (l.take i) (l.drop i) = 0 → X Y (T51 m) [.tmp 2] F (.exit 1) ⟨mk 93 .J [(1, .ptr 0 0)], [ndB nm a tx k]⟩ P) →
    X Y (T51 m) [.tmp 2] F (.loop (loopN Tryz.f51 0)) ⟨mk 93 .J [(1, .ptr 0 0), (3, .i (i : Nat))], [ndB nm a tx k]⟩ P := by
  have hal := (at_len ha).2
  intro r
  induction r with
  | zero =>
    intro i e hp1 hx
    have e1 : i = l.length := by omega
    subst e1
    have hx := hx (by rw [List.drop_of_length_le (Nat.le_refl _)]; rfl)
    apply X_loop_of
    · simp only [loopN, Tryz.f51, loopsOf, List.nil_append, List.append_nil, List.cons_append, List.getD_cons_succ, List.getD_cons_zero]; rfl
    simp [-aLen, hal]
    refine X_keep hx (by simp)
  | succ r ih =>
    intro i e hp1 hx
    have hi : i < l.length := by omega
    obtain ⟨x, hxi⟩ : ∃ x, l[i]? = some x := ⟨_, List.getElem?_eq_getElem hi⟩
    have hat := (at_at ha hxi).2
    have q3 := next_i (m := i) (by omega)
    have c4 : ((i : Nat) : Int) < (l.length : Nat) := by omega
    rw [attrE_step hxi] at hp1 hx
    apply X_loop_of
    · simp only [loopN, Tryz.f51, loopsOf, List.nil_append, List.append_nil, List.cons_append, List.getD_cons_succ, List.getD_cons_zero]; rfl
    by_cases hn : isName x.1 = false
    · rw [if_pos hn] at hp1
      simp [-Int.natCast_add, -Int.not_lt, -Int.not_le, -aIndexAddr, -aLen, -getElem?_pos, List.getElem?_cons_zero, List.getElem?_cons_succ, T51_eq, F20, hal, q3, c4, hi, hat, hn]
      exact hp1 (by decide)
    · have hn1 : isName x.1 = true := by simpa using hn
      rw [if_neg hn] at hp1 hx
      simp [-Int.natCast_add, -Int.not_lt, -Int.not_le, -aIndexAddr, -aLen, -outR, -getElem?_pos, List.getElem?_cons_zero, List.getElem?_cons_succ, T51_eq, F20, hal, q3, c4, hi, hat, hn1]
      refine X_keep (loop51b ha hl hxi i 0 (by omega) (fun hd => ?_) (fun hd => ?_)) (by simp)
      · rw [List.drop_zero] at hd
        rw [if_pos hd] at hp1
        exact hp1 (by decide)
      · rw [List.drop_zero] at hd
        rw [if_neg (by simp [hd])] at hp1 hx
        by_cases he : dataE x.2 = 0
        · rw [if_neg (by simp [he])] at hp1 hx
          simp [-Int.natCast_add, -Int.not_lt, -Int.not_le, -aIndexAddr, -aLen, -outR, -getElem?_pos, List.getElem?_cons_zero, List.getElem?_cons_succ, T51_eq, F70, hal, q3, c4, hi, hat, he]
          refine X_keep (ih (i + 1) (by omega) hp1 hx) ?_
          simp
        · rw [if_pos he] at hp1
          simp [-Int.natCast_add, -Int.not_lt, -Int.not_le, -aIndexAddr, -aLen, -getElem?_pos, List.getElem?_cons_zero, List.getElem?_cons_succ, T51_eq, F70, hal, q3, c4, hi, hat, he, bneZ]
          exact hp1 he
theorem loop51c {F : List Fr} {P : SV × List Blk → Prop} {m : Nat} {nm tx : Bs} {a k : PV} {ks : List Nd} (hk : kidP k = some ks) (hm : ∀ n ∈ ks, n.count ≤ m) (hb : countL ks < 1000000) : ∀ (r i : Nat), i + r = ks.length →
    (eachL (ks.drop i) ≠ 0 → P (.i (eachL (ks.drop i)), [ndB nm a tx k])) →
    (eachL (ks.drop i) = 0 → X Y (T51 m) [.tmp 2] F (.exit 5) ⟨mk 93 .J [], [ndB nm a tx k]⟩ P) →
    X Y (T51 m) [.tmp 2] F (.loop (loopN Tryz.f51 2)) ⟨mk 93 .J [(1, .ptr 0 0), (7, .i (i : Nat))], [ndB nm a tx k]⟩ P := by
  have hl := (kid_len hk).2
  intro r
  induction r with
  | zero =>
    intro i e hp hx
    have e1 : i = ks.length := by omega
    subst e1
    rw [List.drop_of_length_le (Nat.le_refl _)] at hx
    apply X_loop_of
    · simp only [loopN, Tryz.f51, loopsOf, List.nil_append, List.append_nil, List.cons_append, List.getD_cons_succ, List.getD_cons_zero]; rfl
    simp [-aLen, hl]
    refine X_keep (hx (by simp only [eachL])) (by simp)
  | succ r ih =>
    intro i e hp hx
    have hi : i < ks.length := by omega
    obtain ⟨n, hn⟩ : ∃ n, ks[i]? = some n := ⟨_, List.getElem?_eq_getElem hi⟩
    have hmem := List.mem_of_getElem? hn
    obtain ⟨nm', a', tx', k', -, hat, hv⟩ := kid_at hk hn
    have hc := count_kid hmem
    have f1 := F51n_ok hv (hm n hmem) (by omega)
    rw [drop_kid hn, eachL] at hp hx
    have hlen := countL_ge ks
    have q3 := next_i (m := i) (by omega)
    have c4 : ((i : Nat) : Int) < (ks.length : Nat) := by omega
    apply X_loop_of
    · simp only [loopN, Tryz.f51, loopsOf, List.nil_append, List.append_nil, List.cons_append, List.getD_cons_succ, List.getD_cons_zero]; rfl
    by_cases he : n.eachE = 0
    · rw [if_neg (by simp [he])] at hp hx
      simp [-Int.natCast_add, -Int.not_lt, -Int.not_le, -aIndexAddr, -aLen, -getElem?_pos, List.getElem?_cons_zero, List.getElem?_cons_succ, T51_eq, hl, q3, c4, hi, hat, f1, he]
      refine X_keep (ih (i + 1) (by omega) hp hx) ?_
      simp
    · rw [if_pos he] at hp
      simp [-Int.natCast_add, -Int.not_lt, -Int.not_le, -aIndexAddr, -aLen, -getElem?_pos, List.getElem?_cons_zero, List.getElem?_cons_succ, T51_eq, hl, q3, c4, hi, hat, f1, he, bneZ]
      exact hp he
theorem x51 {m : Nat} {a k : PV} {n : Nd} (ha : atP a = some n.attrs) (hk : kidP k = some n.kids) (h1 : n.count ≤ m + 1) (h2 : n.count ≤ 1000000) : XFn Y (T51 m) Tryz.f51 [nodeS n.name a n.text k] [] (Is (.i n.eachE)) := by
  unfold XFn Tryz.f51
  rw [enter_1 _ (by decide)]
  have hal := (at_len ha).2
  have hkl := (kid_len hk).2
  have he := count_eq n
  have ee := each_eq n
  by_cases hn : isName n.name = false
  · have ho : ownE n = 12 := by unfold ownE; rw [if_pos hn]
    rw [ho] at ee
    simp [T51_eq, F20, hn, ee]
  have hn1 : isName n.name = true := by simpa using hn
  by_cases h32 : 32 < n.attrs.length
  · have c1 : (32 : Int) < (n.attrs.length : Nat) := by omega
    have ho : ownE n = 9 := by unfold ownE; rw [if_neg hn, if_pos h32]
    rw [ho] at ee
    simp [-Int.not_lt, -Int.not_le, -aLen, T51_eq, F20, hn1, hal, c1, h32, ee]
  have c1 : ¬ (32 : Int) < (n.attrs.length : Nat) := by omega
  have L := fun F P => loop51a (F := F) (P := P) (m := m) (nm := n.name) (tx := n.text) (k := k) ha (by omega) n.attrs.length 0 (by omega)
  simp only [List.take_zero, List.drop_zero] at L
  simp [-Int.not_lt, -Int.not_le, -aLen, -outR, T51_eq, F20, hn1, hal, c1, h32]
  refine X_keep (L _ _ (fun h => ?_) (fun h => ?_)) (by simp)
  · have ho : ownE n = attrE [] n.attrs := by unfold ownE; rw [if_neg hn, if_neg h32, if_pos h]
    rw [ho, if_pos h] at ee
    simp [ee]
  · have ho : ownE n = if n.text ≠ [] ∧ n.kids ≠ [] then 10 else dataE n.text := by unfold ownE; rw [if_neg hn, if_neg h32, if_neg (by simp [h])]
    have Lc := fun F P => loop51c (F := F) (P := P) (nm := n.name) (tx := n.text) (a := a) hk (m := m) (fun x hx => by have := count_kid hx; omega) (by omega) n.kids.length 0 (by omega)
    simp only [List.drop_zero] at Lc
    by_cases ht : n.text = []
    · rw [if_neg (by simp [ht])] at ho
      have hd0 : dataE n.text = 0 := by rw [ht]; rfl
      rw [ho, hd0, if_neg (by simp)] at ee
      have hd0' : dataE [] = 0 := rfl
      simp [-Int.not_lt, -Int.not_le, -aLen, -outR, T51_eq, F70, ht, hd0']
      rw [ht] at Lc
      refine X_keep (Lc _ _ (fun h => ?_) (fun h => ?_)) (by simp)
      · simp [ee]
      · simp [ee, h]
    · by_cases hkk : n.kids = []
      · rw [if_neg (by simp [hkk])] at ho
        rw [ho] at ee
        have hkl0 : aLen Y 23 (.pv k) = some 0 := by rw [hkl, hkk]; rfl
        by_cases hd : dataE n.text = 0
        · rw [if_neg (by simp [hd])] at ee
          simp [-Int.not_lt, -Int.not_le, -aLen, -outR, T51_eq, F70, ht, hkl0, hd]
          refine X_keep (Lc _ _ (fun h => ?_) (fun h => ?_)) (by simp [hkk])
          · simp [ee]
          · simp [ee, h]
        · rw [if_pos hd] at ee
          simp [-Int.not_lt, -Int.not_le, -aLen, T51_eq, F70, ht, hkl0, hd, bneZ, ee]
      · have c2 : (0 : Int) < (n.kids.length : Nat) := by
          have : n.kids.length ≠ 0 := fun h => hkk (List.length_eq_zero_iff.1 h)
          omega
        have c3 : 0 < n.kids.length := by omega
        rw [if_pos ⟨ht, hkk⟩] at ho
        rw [ho, if_pos (by decide)] at ee
        simp [-Int.not_lt, -Int.not_le, -aLen, T51_eq, F70, ht, hkl, c2, c3, ee]
theorem meets51n (W0 : World) : ∀ m, OkAt W0 51 (F51n m)
  | 0 => meets_fn env tok_nil mixed Tryz.func51 (by kernel_rfl) (by kernel_rfl) fun args r h => by
    refine of_F51n h fun a k n _ _ _ _ h1 _ => ?_
    have := count_pos n; omega
  | m + 1 => meets_fn env (tok_cons (meets21 W0) (tok_cons (meets71 W0) (tok_cons (meets51n W0 m) tok_nil))) mixed Tryz.func51 (by kernel_rfl) (by kernel_rfl) fun args r h => by
    refine of_F51n h fun a k n ha hk e1 e2 h1 h2 => ?_
    subst e1; subst e2
    exact x51 ha hk h1 h2
def F51 : List SV → Option SV
  | [v] => match argN v with
    | some n => if n.count ≤ 1000000 then some (.i n.eachE) else none
    | none => none
  | _ => none
theorem F51_ok {v : SV} {n : Nd} (h : argN v = some n) (h2 : n.count ≤ 1000000) : F51 [v] = some (.i n.eachE) := by
  simp only [F51, h]; rw [if_pos h2]
theorem meets51 (W0 : World) : OkAt W0 51 F51 := OkAt.all (meets51n W0) fun as1 r h => by
  unfold F51 at h
  split at h
  · split at h
    · rename_i n hn
      split at h
      · rename_i hc; cases h; exact ⟨n.count, F51n_ok hn (Nat.le_refl _) hc⟩
      · cases h
    · cases h
  · cases h
noncomputable def T23 : FuncId → Option Pm.Spec := tab [(25, .pure false F24), (27, .pure false F26), (51, .pure false F51)]
theorem T23_eq (g : Nat) : T23 g = tab [(25, .pure false F24), (27, .pure false F26), (51, .pure false F51)] g := rfl
theorem x23 {a k : PV} {n : Nd} (ha : atP a = some n.attrs) (hk : kidP k = some n.kids) (h2 : n.count ≤ 1000000) : XFn Y T23 Tryz.f23 [nodeS n.name a n.text k] [] (Is (.i (chkE n))) := by
  unfold XFn Tryz.f23
  rw [enter_1 _ (by decide)]
  have hv : argN (nodeS n.name a n.text k) = some n := by have := argN_mk (nm := n.name) (tx := n.text) ha hk; cases n; exact this
  have f1 := F24_ok hv h2
  have f2 := F26_ok hv h2
  have f3 := F51_ok hv h2
  by_cases h : 65536 < n.count
  · have c1 : (65536 : Int) < (n.count : Nat) := by omega
    have hc : chkE n = 9 := by unfold chkE; rw [if_neg (by omega)]
    simp [-Int.not_lt, -Int.not_le, T23_eq, f1, f2, f3, c1, h, hc]
  · have c1 : ¬ (65536 : Int) < (n.count : Nat) := by omega
    by_cases hd : 32 < n.depth
    · have c2 : (32 : Int) < (n.depth : Nat) := by omega
      have hc : chkE n = 9 := by unfold chkE; rw [if_neg (by omega)]
      simp [-Int.not_lt, -Int.not_le, T23_eq, f1, f2, f3, c1, h, c2, hd, hc]
    · have c2 : ¬ (32 : Int) < (n.depth : Nat) := by omega
      have hc : chkE n = n.eachE := by unfold chkE; rw [if_pos (by omega)]
      simp [-Int.not_lt, -Int.not_le, T23_eq, f1, f2, f3, c1, h, c2, hd, hc]
theorem meets23 (W0 : World) : OkAt W0 23 F22 := meets_fn env (tok_cons (meets25 W0) (tok_cons (meets27 W0) (tok_cons (meets51 W0) tok_nil))) mixed Tryz.func23 (by kernel_rfl) (by kernel_rfl) fun args r h => by
  unfold F22 at h
  split at h
  · split at h
    · rename_i n hn
      split at h
      · rename_i hc
        cases h
        obtain ⟨a, k, rfl, ha, hk⟩ := argN_or hn
        exact x23 ha hk hc
      · cases h
    · cases h
  · cases h
end Go.Proofs.YtkckpmcpmngiiaaGreatDoor
