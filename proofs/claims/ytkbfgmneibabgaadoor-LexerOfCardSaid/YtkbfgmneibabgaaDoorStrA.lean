/- The Stream: what stands in its box; ready, Peek, Next, Failed, by the machine. -/
import Derived.Test.YtkbfgmneibabgaaDoorLexV
set_option linter.unusedSimpArgs false
set_option linter.unusedVariables false
set_option maxRecDepth 1000000
set_option maxHeartbeats 1000000
namespace Go.Proofs.YtkbfgmneibabgaaDoor
open Go Go.Pm Go.RowKit
open LexP hiding place Sep Run
/-- A token with its place. -/
structure Tp where
  k : Int
  tx : Bs
  v : Int
  b : Bs
  l : Int
  c : Int
  j : Bool
  deriving DecidableEq
def Tp.cells (t : Tp) : List PV := [.int .i64 t.k, .str t.tx, .int .i64 t.v, .str t.b, .int .i64 t.l, .int .i64 t.c, .bool t.j]
def Tp.sv (t : Tp) : SV := .agg [.i t.k, .str t.tx, .i t.v, .str t.b, .i t.l, .i t.c, .bool t.j]
def zTp : Tp := ⟨0, [], 0, [], 0, 0, false⟩
def tp (s : Bs) (t : Tk) : Tp := ⟨t.kind, t.text, t.val, t.bytes, (LexP.place s t.pos).1, (LexP.place s t.pos).2, t.joined⟩
theorem tkRow_tp (s : Bs) (m : List Tk) : tkRow s m = (m.map (tp s)).map Tp.cells := by
  simp [tkRow]; intro t _; rfl
/-- What a stream holds. -/
structure St where
  ts : List Tp
  en : Tp
  l : Int
  c : Int
  e : Int
def St.peek (S : St) : Tp := if S.e = 0 then (match S.ts with | [] => S.en | t :: _ => t) else zTp
def St.nxt (S : St) : St := if S.e = 0 then { S with ts := S.ts.tail } else S
def RowT (x : SV) (ts : List Tp) : Prop := (ts = [] ∧ (x = .pv .nilSlice ∨ x = .tight 7 [])) ∨ x = .pv (.slice 7 (ts.map Tp.cells))
def stB (x : SV) (S : St) : Blk := .box (some 97) [x, .i S.en.k, .str S.en.tx, .i S.en.v, .str S.en.b, .i S.en.l, .i S.en.c, .bool S.en.j, .i S.l, .i S.c, .i S.e]
def Str (w : Nat) (S : St) (H : List Blk) : Prop := ∃ x, RowT x S.ts ∧ H[w]? = some (stB x S)
theorem Str.lt {w : Nat} {S : St} {H : List Blk} (h : Str w S H) : w < H.length := by
  obtain ⟨x, _, h⟩ := h; exact (List.getElem?_eq_some_iff.1 h).1
theorem Str.push {w : Nat} {S : St} {H : List Blk} (h : Str w S H) (b : Blk) : Str w S (H ++ [b]) := by
  have hl := h.lt
  obtain ⟨x, h1, h2⟩ := h
  exact ⟨x, h1, by rw [List.getElem?_append_left hl]; exact h2⟩
theorem Str.fr {w v : Nat} {S : St} {H H' : List Blk} (h : Str w S H) (hf : FrameW v H H') (hne : w ≠ v) : Str w S H' := by
  have hl := h.lt
  obtain ⟨x, h1, h2⟩ := h
  exact ⟨x, h1, by rw [hf.2 w hl hne]; exact h2⟩
theorem FrameW.refl (w : Nat) (H : List Blk) : FrameW w H H := ⟨Nat.le_refl _, fun _ _ _ => rfl⟩
theorem FrameW.trans {w : Nat} {A B C : List Blk} (h : FrameW w A B) (k : FrameW w B C) : FrameW w A C :=
  ⟨Nat.le_trans h.1 k.1, fun j hj hn => (k.2 j (Nat.lt_of_lt_of_le hj h.1) hn).trans (h.2 j hj hn)⟩
theorem FrameW.push (w : Nat) (H : List Blk) (b : Blk) : FrameW w H (H ++ [b]) := ⟨by simp, fun j hj _ => List.getElem?_append_left hj⟩
theorem FrameW.set (w : Nat) (H : List Blk) (b : Blk) : FrameW w H (H.set w b) := ⟨by simp, fun j _ hn => List.getElem?_set_ne (Ne.symm hn)⟩
theorem meets57 (W0 : World) : Enterable Tryd.prog 57 ∧ Meets Tryd.prog W0 57 (specFn (.heap (arunAll Y T0 Tryd.f57))) := meets_heap env tok_nil mixed Tryd.func57 (by kernel_rfl) (by kernel_rfl)
theorem all57 {w : Nat} {S : St} {H : List Blk} (h : Str w S H) : arunAll Y T0 Tryd.f57 [.ptr w 0] H = some (.bool (decide (S.e = 0)), H) := by
  obtain ⟨x, h1, h2⟩ := h
  unfold stB at h2
  have hx : XFn Y T0 Tryd.f57 [.ptr w 0] H (fun x => x = (.bool (decide (S.e = 0)), H)) := by
    unfold XFn Tryd.f57
    rw [enter_1 _ (by decide)]
    by_cases he : S.e = 0
    · rw [he] at h2
      simp [h2, he]
    · simp [h2, he]
  obtain ⟨r, H', g1, g2⟩ := all_of_XFn (by rfl) hx
  cases g2
  exact g1
noncomputable def T25 : FuncId → Option Pm.Spec := tab [(57, .heap (arunAll Y T0 Tryd.f57))]
theorem T25_eq (g : Nat) : T25 g = tab [(57, .heap (arunAll Y T0 Tryd.f57))] g := rfl
theorem tok25 (W0 : World) : TOk Tryd.prog W0 T25 := tok_cons (meets57 W0) tok_nil
theorem meets25 (W0 : World) : Enterable Tryd.prog 25 ∧ Meets Tryd.prog W0 25 (specFn (.heap (arunAll Y T25 Tryd.f25))) := meets_heap env (tok25 W0) mixed Tryd.func25 (by kernel_rfl) (by kernel_rfl)
theorem all25 {w : Nat} {S : St} {H : List Blk} (h : Str w S H) : ∃ b, arunAll Y T25 Tryd.f25 [.ptr w 0] H = some (S.peek.sv, H ++ [b]) := by
  have e57 := fun b => all57 (h.push b)
  have hlt := h.lt
  obtain ⟨x, h1, h2⟩ := h
  have g0 : ∀ b, (H ++ [b])[w]? = some (stB x S) := fun b => by rw [List.getElem?_append_left hlt]; exact h2
  unfold stB at g0
  have hx : XFn Y T25 Tryd.f25 [.ptr w 0] H (fun x => ∃ b, x = (S.peek.sv, H ++ [b])) := by
    unfold XFn Tryd.f25
    rw [enter_1 _ (by decide)]
    by_cases he : S.e = 0
    · rw [decide_eq_true he] at e57
      rcases h1 with ⟨ht, rfl | rfl⟩ | rfl
      · have hp : S.peek = S.en := by simp [St.peek, he, ht]
        rw [hp]
        simp [-getElem?_pos, List.getElem?_cons_zero, List.getElem?_cons_succ, T25_eq, e57, g0, set_last, get_last, Tp.sv]
      · have hp : S.peek = S.en := by simp [St.peek, he, ht]
        rw [hp]
        simp [-getElem?_pos, List.getElem?_cons_zero, List.getElem?_cons_succ, T25_eq, e57, g0, set_last, get_last, Tp.sv]
      · cases hts : S.ts with
        | nil =>
          have hp : S.peek = S.en := by simp [St.peek, he, hts]
          rw [hp]
          rw [hts] at g0
          simp [-getElem?_pos, List.getElem?_cons_zero, List.getElem?_cons_succ, T25_eq, e57, g0, set_last, get_last, Tp.sv]
        | cons t r =>
          have hp : S.peek = t := by simp [St.peek, he, hts]
          rw [hp]
          rw [hts] at g0
          have q : ¬ (r.length : Int) + 1 = 0 := by omega
          simp [-getElem?_pos, List.getElem?_cons_zero, List.getElem?_cons_succ, T25_eq, e57, g0, set_last, get_last, Tp.sv, Tp.cells, q]
    · rw [decide_eq_false he] at e57
      have hp : S.peek = zTp := by simp [St.peek, he]
      rw [hp]
      simp [-getElem?_pos, List.getElem?_cons_zero, List.getElem?_cons_succ, T25_eq, e57, g0, set_last, get_last, Tp.sv, zTp]
  obtain ⟨r, H', g1, b, g2⟩ := all_of_XFn (by rfl) hx
  cases g2
  exact ⟨b, g1⟩
end Go.Proofs.YtkbfgmneibabgaaDoor
