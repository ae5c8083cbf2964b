/- The Stream and the law's model of it, by the machine. -/
import Derived.Test.YtkbfgmneibabgaaDoorLexV
set_option linter.unusedSimpArgs false
set_option linter.unusedVariables false
set_option maxRecDepth 1000000
set_option maxHeartbeats 2000000
namespace Go.Proofs.YtkbfgmneibabgaaDoor
open Go Go.Pm Go.RowKit
open LexP hiding place Sep Run
/-- A token with its place. -/
structure Tp where
  k : Int
  tx : Bs
  v : Int
  b : Bs
  l : Int
  c : Int
  j : Bool
  deriving DecidableEq
def Tp.cells (t : Tp) : List PV := [.int .i64 t.k, .str t.tx, .int .i64 t.v, .str t.b, .int .i64 t.l, .int .i64 t.c, .bool t.j]
def Tp.sv (t : Tp) : SV := .agg [.i t.k, .str t.tx, .i t.v, .str t.b, .i t.l, .i t.c, .bool t.j]
def zTp : Tp := ⟨0, [], 0, [], 0, 0, false⟩
def tp (s : Bs) (t : Tk) : Tp := ⟨t.kind, t.text, t.val, t.bytes, (LexP.place s t.pos).1, (LexP.place s t.pos).2, t.joined⟩
theorem tkRow_tp (s : Bs) (m : List Tk) : tkRow s m = (m.map (tp s)).map Tp.cells := by
  simp [tkRow]; intro t _; rfl
/-- What a stream holds. -/
structure St where
  ts : List Tp
  en : Tp
  l : Int
  c : Int
  e : Int
def St.peek (S : St) : Tp := if S.e = 0 then (match S.ts with | [] => S.en | t :: _ => t) else zTp
def St.nxt (S : St) : St := if S.e = 0 then { S with ts := S.ts.tail } else S
def RowT (x : SV) (ts : List Tp) : Prop := (ts = [] ∧ (x = .pv .nilSlice ∨ x = .tight 7 [])) ∨ x = .pv (.slice 7 (ts.map Tp.cells))
def stB (x : SV) (S : St) : Blk := .box (some 97) [x, .i S.en.k, .str S.en.tx, .i S.en.v, .str S.en.b, .i S.en.l, .i S.en.c, .bool S.en.j, .i S.l, .i S.c, .i S.e]
def Str (w : Nat) (S : St) (H : List Blk) : Prop := ∃ x, RowT x S.ts ∧ H[w]? = some (stB x S)
theorem Str.lt {w : Nat} {S : St} {H : List Blk} (h : Str w S H) : w < H.length := by
  obtain ⟨x, _, h⟩ := h; exact (List.getElem?_eq_some_iff.1 h).1
theorem Str.push {w : Nat} {S : St} {H : List Blk} (h : Str w S H) (b : Blk) : Str w S (H ++ [b]) := by
  have hl := h.lt
  obtain ⟨x, h1, h2⟩ := h
  exact ⟨x, h1, by rw [List.getElem?_append_left hl]; exact h2⟩
theorem Str.fr {w v : Nat} {S : St} {H H' : List Blk} (h : Str w S H) (hf : FrameW v H H') (hne : w ≠ v) : Str w S H' := by
  have hl := h.lt
  obtain ⟨x, h1, h2⟩ := h
  exact ⟨x, h1, by rw [hf.2 w hl hne]; exact h2⟩
theorem FrameW.refl (w : Nat) (H : List Blk) : FrameW w H H := ⟨Nat.le_refl _, fun _ _ _ => rfl⟩
theorem FrameW.trans {w : Nat} {A B C : List Blk} (h : FrameW w A B) (k : FrameW w B C) : FrameW w A C :=
  ⟨Nat.le_trans h.1 k.1, fun j hj hn => (k.2 j (Nat.lt_of_lt_of_le hj h.1) hn).trans (h.2 j hj hn)⟩
theorem FrameW.push (w : Nat) (H : List Blk) (b : Blk) : FrameW w H (H ++ [b]) := ⟨by simp, fun j hj _ => List.getElem?_append_left hj⟩
theorem FrameW.set (w : Nat) (H : List Blk) (b : Blk) : FrameW w H (H.set w b) := ⟨by simp, fun j _ hn => List.getElem?_set_ne (Ne.symm hn)⟩
theorem meets57 (W0 : World) : Enterable Tryd.prog 57 ∧ Meets Tryd.prog W0 57 (specFn (.heap (arunAll Y T0 Tryd.f57))) := meets_heap env tok_nil mixed Tryd.func57 (by kernel_rfl) (by kernel_rfl)
theorem all57 {w : Nat} {S : St} {H : List Blk} (h : Str w S H) : arunAll Y T0 Tryd.f57 [.ptr w 0] H = some (.bool (decide (S.e = 0)), H) := by
  obtain ⟨x, h1, h2⟩ := h
  unfold stB at h2
  have hx : XFn Y T0 Tryd.f57 [.ptr w 0] H (fun x => x = (.bool (decide (S.e = 0)), H)) := by
    unfold XFn Tryd.f57
    rw [enter_1 _ (by decide)]
    by_cases he : S.e = 0
    · rw [he] at h2
      simp [h2, he]
    · simp [h2, he]
  obtain ⟨r, H', g1, g2⟩ := all_of_XFn (by rfl) hx
  cases g2
  exact g1
noncomputable def T25 : FuncId → Option Pm.Spec := tab [(57, .heap (arunAll Y T0 Tryd.f57))]
theorem T25_eq (g : Nat) : T25 g = tab [(57, .heap (arunAll Y T0 Tryd.f57))] g := rfl
theorem tok25 (W0 : World) : TOk Tryd.prog W0 T25 := tok_cons (meets57 W0) tok_nil
theorem meets25 (W0 : World) : Enterable Tryd.prog 25 ∧ Meets Tryd.prog W0 25 (specFn (.heap (arunAll Y T25 Tryd.f25))) := meets_heap env (tok25 W0) mixed Tryd.func25 (by kernel_rfl) (by kernel_rfl)
theorem all25 {w : Nat} {S : St} {H : List Blk} (h : Str w S H) : ∃ b, arunAll Y T25 Tryd.f25 [.ptr w 0] H = some (S.peek.sv, H ++ [b]) := by
  have e57 := fun b => all57 (h.push b)
  have hlt := h.lt
  obtain ⟨x, h1, h2⟩ := h
  have g0 : ∀ b, (H ++ [b])[w]? = some (stB x S) := fun b => by rw [List.getElem?_append_left hlt]; exact h2
  unfold stB at g0
  have hx : XFn Y T25 Tryd.f25 [.ptr w 0] H (fun x => ∃ b, x = (S.peek.sv, H ++ [b])) := by
    unfold XFn Tryd.f25
    rw [enter_1 _ (by decide)]
    by_cases he : S.e = 0
    · rw [decide_eq_true he] at e57
      rcases h1 with ⟨ht, rfl | rfl⟩ | rfl
      · have hp : S.peek = S.en := by simp [St.peek, he, ht]
        rw [hp]
        simp [-getElem?_pos, List.getElem?_cons_zero, List.getElem?_cons_succ, T25_eq, e57, g0, set_last, get_last, Tp.sv]
      · have hp : S.peek = S.en := by simp [St.peek, he, ht]
        rw [hp]
        simp [-getElem?_pos, List.getElem?_cons_zero, List.getElem?_cons_succ, T25_eq, e57, g0, set_last, get_last, Tp.sv]
      · cases hts : S.ts with
        | nil =>
          have hp : S.peek = S.en := by simp [St.peek, he, hts]
          rw [hp]
          rw [hts] at g0
          simp [-getElem?_pos, List.getElem?_cons_zero, List.getElem?_cons_succ, T25_eq, e57, g0, set_last, get_last, Tp.sv]
        | cons t r =>
          have hp : S.peek = t := by simp [St.peek, he, hts]
          rw [hp]
          rw [hts] at g0
          have q : ¬ (r.length : Int) + 1 = 0 := by omega
          simp [-getElem?_pos, List.getElem?_cons_zero, List.getElem?_cons_succ, T25_eq, e57, g0, set_last, get_last, Tp.sv, Tp.cells, q]
    · rw [decide_eq_false he] at e57
      have hp : S.peek = zTp := by simp [St.peek, he]
      rw [hp]
      simp [-getElem?_pos, List.getElem?_cons_zero, List.getElem?_cons_succ, T25_eq, e57, g0, set_last, get_last, Tp.sv, zTp]
  obtain ⟨r, H', g1, b, g2⟩ := all_of_XFn (by rfl) hx
  cases g2
  exact ⟨b, g1⟩
end Go.Proofs.YtkbfgmneibabgaaDoor
namespace Go.Proofs.YtkbfgmneibabgaaDoor
open Go Go.Pm Go.RowKit
open LexP hiding place Sep Run
theorem ga0 {G : List Blk} {n : Nat} (h : G.length = n) (a : Blk) (l : List Blk) : (G ++ a :: l)[n]? = some a := by subst h; simp
theorem ga1 {G : List Blk} {n : Nat} (h : G.length = n) (a b : Blk) (l : List Blk) : (G ++ a :: b :: l)[n + 1]? = some b := by subst h; simp
theorem ga2 {G : List Blk} {n : Nat} (h : G.length = n) (a b c : Blk) (l : List Blk) : (G ++ a :: b :: c :: l)[n + 2]? = some c := by subst h; simp
theorem sa0 {G : List Blk} {n : Nat} (h : G.length = n) (a x : Blk) (l : List Blk) : (G ++ a :: l).set n x = G ++ x :: l := by subst h; simp
theorem sa1 {G : List Blk} {n : Nat} (h : G.length = n) (a b x : Blk) (l : List Blk) : (G ++ a :: b :: l).set (n + 1) x = G ++ a :: x :: l := by
  subst h; rw [List.set_append_right _ _ (by omega)]; simp
theorem sa2 {G : List Blk} {n : Nat} (h : G.length = n) (a b c x : Blk) (l : List Blk) : (G ++ a :: b :: c :: l).set (n + 2) x = G ++ a :: b :: x :: l := by
  subst h; rw [List.set_append_right _ _ (by omega)]; simp
theorem gw_ {G : List Blk} {w : Nat} (h : w < G.length) (l : List Blk) : (G ++ l)[w]? = G[w]? := List.getElem?_append_left h
theorem sw_ {G : List Blk} {w : Nat} (h : w < G.length) (x : Blk) (l : List Blk) : (G ++ l).set w x = G.set w x ++ l := List.set_append_left _ _ h
theorem Str.app {w : Nat} {S : St} {H : List Blk} (h : Str w S H) (l : List Blk) : Str w S (H ++ l) := by
  have hl := h.lt
  obtain ⟨x, h1, h2⟩ := h
  exact ⟨x, h1, by rw [List.getElem?_append_left hl]; exact h2⟩
theorem FrameW.app (w : Nat) (H l : List Blk) : FrameW w H (H ++ l) := ⟨by simp, fun j hj _ => List.getElem?_append_left hj⟩
noncomputable def T26 : FuncId → Option Pm.Spec := tab [(25, .heap (arunAll Y T25 Tryd.f25)), (57, .heap (arunAll Y T0 Tryd.f57))]
theorem T26_eq (g : Nat) : T26 g = tab [(25, .heap (arunAll Y T25 Tryd.f25)), (57, .heap (arunAll Y T0 Tryd.f57))] g := rfl
theorem tok26 (W0 : World) : TOk Tryd.prog W0 T26 := tok_cons (meets25 W0) (tok_cons (meets57 W0) tok_nil)
theorem meets26 (W0 : World) : Enterable Tryd.prog 26 ∧ Meets Tryd.prog W0 26 (specFn (.heap (arunAll Y T26 Tryd.f26))) := meets_heap env (tok26 W0) mixed Tryd.func26 (by kernel_rfl) (by kernel_rfl)
theorem all26 {w : Nat} {S : St} {H : List Blk} (h : Str w S H) : ∃ H', arunAll Y T26 Tryd.f26 [.ptr w 0] H = some (S.peek.sv, H') ∧ Str w S.nxt H' ∧ FrameW w H H' := by
  have e57 := fun l => all57 (h.app l)
  obtain ⟨f, hf⟩ := Classical.axiomOfChoice (fun b => all25 (h.app [b]))
  have hf : ∀ b, arunAll Y T25 Tryd.f25 [.ptr w 0] (H ++ [b]) = some (S.peek.sv, H ++ [b, f b]) := fun b => by simpa using hf b
  have hlt := h.lt
  obtain ⟨x, h1, h2⟩ := h
  have g0 : ∀ l, (H ++ l)[w]? = some (stB x S) := fun l => by rw [List.getElem?_append_left hlt]; exact h2
  have s0 : ∀ b l, (H ++ l).set w b = H.set w b ++ l := fun b l => List.set_append_left _ _ hlt
  have hls : ∀ b : Blk, (H.set w b).length = H.length := fun b => by simp
  have fin : ∀ (x' : SV), RowT x' S.nxt.ts → S.nxt = { S with ts := S.nxt.ts } → ∀ l, Str w S.nxt (H.set w (stB x' S) ++ l) ∧ FrameW w H (H.set w (stB x' S) ++ l) := fun x' hr hn l => by
    refine ⟨Str.app ⟨x', hr, ?_⟩ l, FrameW.trans (FrameW.set w H _) (FrameW.app w _ l)⟩
    rw [List.getElem?_set_self hlt, hn]
    rfl
  have same : S.nxt = S → ∀ l, Str w S.nxt (H ++ l) ∧ FrameW w H (H ++ l) := fun e l => by
    rw [e]
    exact ⟨Str.app ⟨x, h1, h2⟩ l, FrameW.app w H l⟩
  unfold stB at g0 fin
  generalize hp : S.peek = p at *
  have hx : XFn Y T26 Tryd.f26 [.ptr w 0] H (fun x => ∃ H', x = (p.sv, H') ∧ Str w S.nxt H' ∧ FrameW w H H') := by
    unfold XFn Tryd.f26
    rw [enter_1 _ (by decide)]
    by_cases he : S.e = 0
    · rw [decide_eq_true he] at e57
      rcases h1 with ⟨ht, rfl | rfl⟩ | rfl
      · have hn : S.nxt = S := by
          unfold St.nxt; rw [if_pos he, ht]; rw [show ([] : List Tp).tail = S.ts by rw [ht]; rfl]
        simp [-getElem?_pos, List.getElem?_cons_zero, List.getElem?_cons_succ, T26_eq, hf, e57, g0, ga0, ga1, ga2, sa0, sa1, sa2, Tp.sv]
        exact same hn _
      · have hn : S.nxt = S := by
          unfold St.nxt; rw [if_pos he, ht]; rw [show ([] : List Tp).tail = S.ts by rw [ht]; rfl]
        simp [-getElem?_pos, List.getElem?_cons_zero, List.getElem?_cons_succ, T26_eq, hf, e57, g0, ga0, ga1, ga2, sa0, sa1, sa2, Tp.sv]
        exact same hn _
      · cases hts : S.ts with
        | nil =>
          have hn : S.nxt = S := by
            unfold St.nxt; rw [if_pos he, hts]; rw [show ([] : List Tp).tail = S.ts by rw [hts]; rfl]
          rw [hts] at g0
          simp [-getElem?_pos, List.getElem?_cons_zero, List.getElem?_cons_succ, T26_eq, hf, e57, g0, ga0, ga1, ga2, sa0, sa1, sa2, Tp.sv]
          exact same hn _
        | cons t r =>
          have hn : S.nxt = { S with ts := r } := by unfold St.nxt; rw [if_pos he, hts]; rfl
          have hr : RowT (.pv (.slice 7 (r.map Tp.cells))) S.nxt.ts := by rw [hn]; exact .inr rfl
          have fin := fin _ hr (by rw [hn])
          rw [hts] at g0
          have q : (0 : Int) < (r.length : Int) + 1 := by omega
          have htk : (r.map Tp.cells).take r.length = r.map Tp.cells := List.take_of_length_le (by simp)
          simp [-getElem?_pos, List.getElem?_cons_zero, List.getElem?_cons_succ, T26_eq, hf, e57, g0, s0, hls, ga0, ga1, ga2, sa0, sa1, sa2, Tp.sv, q, htk]
          exact fin _
    · rw [decide_eq_false he] at e57
      have hn : S.nxt = S := by unfold St.nxt; rw [if_neg he]
      simp [-getElem?_pos, List.getElem?_cons_zero, List.getElem?_cons_succ, T26_eq, hf, e57, g0, ga0, ga1, ga2, sa0, sa1, sa2, Tp.sv]
      exact same hn _
  obtain ⟨r, H', g1, H2, g2, g3⟩ := all_of_XFn (by rfl) hx
  cases g2
  exact ⟨_, g1, g3⟩
theorem meets27 (W0 : World) : Enterable Tryd.prog 27 ∧ Meets Tryd.prog W0 27 (specFn (.heap (arunAll Y T0 Tryd.f27))) := meets_heap env tok_nil mixed Tryd.func27 (by kernel_rfl) (by kernel_rfl)
theorem all27 {w : Nat} {S : St} {H : List Blk} (h : Str w S H) : arunAll Y T0 Tryd.f27 [.ptr w 0] H = some (.tuple [.i S.l, .i S.c, .i S.e], H) := by
  obtain ⟨x, h1, h2⟩ := h
  unfold stB at h2
  have hx : XFn Y T0 Tryd.f27 [.ptr w 0] H (fun x => x = (.tuple [.i S.l, .i S.c, .i S.e], H)) := by
    unfold XFn Tryd.f27
    rw [enter_1 _ (by decide)]
    simp [-getElem?_pos, List.getElem?_cons_zero, List.getElem?_cons_succ, h2]
  obtain ⟨r, H', g1, g2⟩ := all_of_XFn (by rfl) hx
  cases g2
  exact g1
def St.fail (S : St) (k : Int) : St := if S.e = 0 ∧ k ≠ 0 then { S with l := S.peek.l, c := S.peek.c, e := k } else S
theorem meets29 (W0 : World) : Enterable Tryd.prog 29 ∧ Meets Tryd.prog W0 29 (specFn (.heap (arunAll Y T26 Tryd.f29))) := meets_heap env (tok26 W0) mixed Tryd.func29 (by kernel_rfl) (by kernel_rfl)
theorem all29 {w : Nat} {S : St} {H : List Blk} (h : Str w S H) (k : Int) : ∃ H', arunAll Y T26 Tryd.f29 [.ptr w 0, .i k] H = some (.undef, H') ∧ Str w (S.fail k) H' ∧ FrameW w H H' := by
  have e57 := all57 h
  obtain ⟨b, hf⟩ := all25 h
  have hlt := h.lt
  have hstr := h
  obtain ⟨x, h1, h2⟩ := h
  have g0 : ∀ l, (H ++ l)[w]? = some (stB x S) := fun l => by rw [List.getElem?_append_left hlt]; exact h2
  have s0 : ∀ b l, (H ++ l).set w b = H.set w b ++ l := fun b l => List.set_append_left _ _ hlt
  have hls : ∀ b : Blk, (H.set w b).length = H.length := fun b => by simp
  have gs : ∀ b l, (H.set w b ++ l)[w]? = some b := fun b l => by rw [List.getElem?_append_left (by simpa using hlt)]; exact List.getElem?_set_self hlt
  have ss : ∀ b b' l, (H.set w b ++ l).set w b' = H.set w b' ++ l := fun b b' l => by rw [List.set_append_left _ _ (by simpa using hlt), List.set_set]
  have hne : ∀ q, H.length + q ≠ w := fun q => by omega
  have hne0 : ¬ H.length + 1 = w := by omega
  have hx : XFn Y T26 Tryd.f29 [.ptr w 0, .i k] H (fun x => ∃ H', x = (.undef, H') ∧ Str w (S.fail k) H' ∧ FrameW w H H') := by
    unfold XFn Tryd.f29
    rw [enter_2 _ (by decide)]
    by_cases he : S.e = 0
    · rw [decide_eq_true he] at e57
      by_cases hk : k = 0
      · have hn : S.fail k = S := by unfold St.fail; rw [if_neg (by simp [hk])]
        rw [hn]
        simp [T26_eq, e57, hk, hstr, FrameW.refl]
      · have hn : S.fail k = { S with l := S.peek.l, c := S.peek.c, e := k } := by unfold St.fail; rw [if_pos ⟨he, hk⟩]
        rw [hn]
        generalize S.peek = p at *
        have fin : ∀ l, Str w { S with l := p.l, c := p.c, e := k } (H.set w (stB x { S with l := p.l, c := p.c, e := k }) ++ l) ∧ FrameW w H (H.set w (stB x { S with l := p.l, c := p.c, e := k }) ++ l) := fun l =>
          ⟨Str.app (S := { S with l := p.l, c := p.c, e := k }) ⟨x, h1, List.getElem?_set_self hlt⟩ l, FrameW.trans (FrameW.set w H _) (FrameW.app w _ l)⟩
        unfold stB at g0 fin
        have hk' : ¬ k = 0 := hk
        simp [-getElem?_pos, List.getElem?_cons_zero, List.getElem?_cons_succ, T26_eq, hf, e57, hk, g0, s0, gs, ss, hls, ga0, ga1, ga2, sa0, sa1, sa2, Tp.sv, loadW_ptr, storeW_ptr, hne0]
        exact fin _
    · rw [decide_eq_false he] at e57
      have hn : S.fail k = S := by unfold St.fail; rw [if_neg (by simp [he])]
      rw [hn]
      simp [T26_eq, e57, hstr, FrameW.refl]
  obtain ⟨r, H', g1, H2, g2, g3⟩ := all_of_XFn (by rfl) hx
  cases g2
  exact ⟨_, g1, g3⟩
end Go.Proofs.YtkbfgmneibabgaaDoor
namespace Go.Proofs.YtkbfgmneibabgaaDoor
open Go Go.Pm Go.RowKit
open LexP hiding place Sep Run
def St.is (S : St) (t : Bs) : Bool := (decide (S.peek.k = 1) || decide (S.peek.k = 4)) && decide (S.peek.tx = t)
theorem meets30 (W0 : World) : Enterable Tryd.prog 30 ∧ Meets Tryd.prog W0 30 (specFn (.heap (arunAll Y T26 Tryd.f30))) := meets_heap env (tok26 W0) mixed Tryd.func30 (by kernel_rfl) (by kernel_rfl)
theorem all30 {w : Nat} {S : St} {H : List Blk} (h : Str w S H) (t : Bs) : ∃ l, arunAll Y T26 Tryd.f30 [.ptr w 0, .str t] H = some (.bool (S.is t), H ++ l) := by
  obtain ⟨b, hf⟩ := all25 h
  have hx : XFn Y T26 Tryd.f30 [.ptr w 0, .str t] H (fun x => ∃ l, x = (.bool (S.is t), H ++ l)) := by
    unfold XFn Tryd.f30
    rw [enter_2 _ (by decide)]
    unfold St.is
    generalize S.peek = p at *
    by_cases h1 : p.k = 1
    · by_cases h3 : p.tx = t
      · simp [-getElem?_pos, List.getElem?_cons_zero, List.getElem?_cons_succ, T26_eq, hf, ga0, ga1, sa0, sa1, Tp.sv, h1, h3]
      · simp [-getElem?_pos, List.getElem?_cons_zero, List.getElem?_cons_succ, T26_eq, hf, ga0, ga1, sa0, sa1, Tp.sv, h1, h3]
    · by_cases h2 : p.k = 4
      · by_cases h3 : p.tx = t
        · simp [-getElem?_pos, List.getElem?_cons_zero, List.getElem?_cons_succ, T26_eq, hf, ga0, ga1, sa0, sa1, Tp.sv, h2, h3]
        · simp [-getElem?_pos, List.getElem?_cons_zero, List.getElem?_cons_succ, T26_eq, hf, ga0, ga1, sa0, sa1, Tp.sv, h2, h3]
      · simp [-getElem?_pos, List.getElem?_cons_zero, List.getElem?_cons_succ, T26_eq, hf, ga0, ga1, sa0, sa1, Tp.sv, h1, h2]
  obtain ⟨r, H', g1, l, g2⟩ := all_of_XFn (by rfl) hx
  cases g2
  exact ⟨_, g1⟩
noncomputable def T31 : FuncId → Option Pm.Spec := tab [(26, .heap (arunAll Y T26 Tryd.f26)), (30, .heap (arunAll Y T26 Tryd.f30))]
theorem T31_eq (g : Nat) : T31 g = tab [(26, .heap (arunAll Y T26 Tryd.f26)), (30, .heap (arunAll Y T26 Tryd.f30))] g := rfl
theorem tok31 (W0 : World) : TOk Tryd.prog W0 T31 := tok_cons (meets26 W0) (tok_cons (meets30 W0) tok_nil)
theorem meets31 (W0 : World) : Enterable Tryd.prog 31 ∧ Meets Tryd.prog W0 31 (specFn (.heap (arunAll Y T31 Tryd.f31))) := meets_heap env (tok31 W0) mixed Tryd.func31 (by kernel_rfl) (by kernel_rfl)
def St.acc (S : St) (t : Bs) : St := if S.is t = true then S.nxt else S
theorem all31 {w : Nat} {S : St} {H : List Blk} (h : Str w S H) (t : Bs) : ∃ H', arunAll Y T31 Tryd.f31 [.ptr w 0, .str t] H = some (.bool (S.is t), H') ∧ Str w (S.acc t) H' ∧ FrameW w H H' := by
  obtain ⟨l, hf⟩ := all30 h t
  obtain ⟨H2, hn, s2, f2⟩ := all26 (h.app l)
  have hx : XFn Y T31 Tryd.f31 [.ptr w 0, .str t] H (fun x => ∃ H', x = (.bool (S.is t), H') ∧ Str w (S.acc t) H' ∧ FrameW w H H') := by
    unfold XFn Tryd.f31
    rw [enter_2 _ (by decide)]
    unfold St.acc
    cases hi : S.is t with
    | true =>
      rw [hi] at hf
      simp [T31_eq, hf, hn]
      exact ⟨s2, FrameW.trans (FrameW.app w H l) f2⟩
    | false =>
      rw [hi] at hf
      simp [T31_eq, hf]
      exact ⟨h.app l, FrameW.app w H l⟩
  obtain ⟨r, H', g1, H2, g2, g3⟩ := all_of_XFn (by rfl) hx
  cases g2
  exact ⟨_, g1, g3⟩
noncomputable def T28 : FuncId → Option Pm.Spec := tab [(29, .heap (arunAll Y T26 Tryd.f29)), (31, .heap (arunAll Y T31 Tryd.f31))]
theorem T28_eq (g : Nat) : T28 g = tab [(29, .heap (arunAll Y T26 Tryd.f29)), (31, .heap (arunAll Y T31 Tryd.f31))] g := rfl
theorem tok28 (W0 : World) : TOk Tryd.prog W0 T28 := tok_cons (meets29 W0) (tok_cons (meets31 W0) tok_nil)
theorem meets28 (W0 : World) : Enterable Tryd.prog 28 ∧ Meets Tryd.prog W0 28 (specFn (.heap (arunAll Y T28 Tryd.f28))) := meets_heap env (tok28 W0) mixed Tryd.func28 (by kernel_rfl) (by kernel_rfl)
def St.expect (S : St) (t : Bs) : St := if S.is t = true then S.nxt else S.fail 13
theorem all28 {w : Nat} {S : St} {H : List Blk} (h : Str w S H) (t : Bs) : ∃ H', arunAll Y T28 Tryd.f28 [.ptr w 0, .str t] H = some (.undef, H') ∧ Str w (S.expect t) H' ∧ FrameW w H H' := by
  obtain ⟨H1, hf, s1, f1⟩ := all31 h t
  obtain ⟨H2, hn, s2, f2⟩ := all29 s1 13
  have hx : XFn Y T28 Tryd.f28 [.ptr w 0, .str t] H (fun x => ∃ H', x = (.undef, H') ∧ Str w (S.expect t) H' ∧ FrameW w H H') := by
    unfold XFn Tryd.f28
    rw [enter_2 _ (by decide)]
    unfold St.expect
    unfold St.acc at s1 s2
    cases hi : S.is t with
    | true =>
      rw [hi] at hf s1
      simp [T28_eq, hf]
      exact ⟨s1, f1⟩
    | false =>
      rw [hi] at hf s2
      simp [T28_eq, hf, hn]
      exact ⟨s2, FrameW.trans f1 f2⟩
  obtain ⟨r, H', g1, H2, g2, g3⟩ := all_of_XFn (by rfl) hx
  cases g2
  exact ⟨_, g1, g3⟩
noncomputable def T58 : FuncId → Option Pm.Spec := tab [(25, .heap (arunAll Y T25 Tryd.f25)), (26, .heap (arunAll Y T26 Tryd.f26)), (29, .heap (arunAll Y T26 Tryd.f29))]
theorem T58_eq (g : Nat) : T58 g = tab [(25, .heap (arunAll Y T25 Tryd.f25)), (26, .heap (arunAll Y T26 Tryd.f26)), (29, .heap (arunAll Y T26 Tryd.f29))] g := rfl
theorem tok58 (W0 : World) : TOk Tryd.prog W0 T58 := tok_cons (meets25 W0) (tok_cons (meets26 W0) (tok_cons (meets29 W0) tok_nil))
theorem meets58 (W0 : World) : Enterable Tryd.prog 58 ∧ Meets Tryd.prog W0 58 (specFn (.heap (arunAll Y T58 Tryd.f58))) := meets_heap env (tok58 W0) mixed Tryd.func58 (by kernel_rfl) (by kernel_rfl)
def St.takeR (S : St) (k : Int) : Tp := if S.peek.k = k then S.peek else zTp
def St.takeS (S : St) (k : Int) : St := if S.peek.k = k then S.nxt else S.fail 13
theorem all58 {w : Nat} {S : St} {H : List Blk} (h : Str w S H) (k : Int) : ∃ H', arunAll Y T58 Tryd.f58 [.ptr w 0, .i k] H = some ((S.takeR k).sv, H') ∧ Str w (S.takeS k) H' ∧ FrameW w H H' := by
  obtain ⟨f, hf⟩ := Classical.axiomOfChoice (fun b => all25 (h.app [b]))
  have hf : ∀ b, arunAll Y T25 Tryd.f25 [.ptr w 0] (H ++ [b]) = some (S.peek.sv, H ++ [b, f b]) := fun b => by simpa using hf b
  obtain ⟨f26, h26⟩ := Classical.axiomOfChoice (fun l => all26 (h.app l))
  obtain ⟨f29, h29⟩ := Classical.axiomOfChoice (fun l => all29 (h.app l) 13)
  have e26 := fun l => (h26 l).1
  have e29 := fun l => (h29 l).1
  have hlt := h.lt
  have keep : ∀ (G : List Blk) (b c : Blk), FrameW w (H ++ [b, c]) G → G[H.length]? = some b := fun G b c hG => by rw [hG.2 H.length (by simp) (by omega)]; simp
  have put : ∀ (G : List Blk) (b c b' : Blk) (S' : St), Str w S' G → FrameW w (H ++ [b, c]) G → Str w S' (G.set H.length b') ∧ FrameW w H (G.set H.length b') := fun G b c b' S' hs hG => by
    have hl := hs.lt
    obtain ⟨x, h1, h2⟩ := hs
    refine ⟨⟨x, h1, by rw [List.getElem?_set_ne (by omega)]; exact h2⟩, ?_, fun j hj hn => ?_⟩
    · have := hG.1; simp at this ⊢; omega
    · rw [List.getElem?_set_ne (by omega), hG.2 j (by simp; omega) hn, List.getElem?_append_left hj]
  have slf : ∀ (G : List Blk) (b c b' : Blk), FrameW w (H ++ [b, c]) G → (G.set H.length b')[H.length]? = some b' := fun G b c b' hG => by
    have := hG.1; simp at this
    exact List.getElem?_set_self (by omega)
  have k26 := fun b => keep _ _ _ (h26 [b, f b]).2.2
  have k29 := fun b => keep _ _ _ (h29 [b, f b]).2.2
  have sl26 := fun b b' => slf _ _ _ b' (h26 [b, f b]).2.2
  have sl29 := fun b b' => slf _ _ _ b' (h29 [b, f b]).2.2
  have p26 := fun b b' => put _ _ _ b' _ (h26 [b, f b]).2.1 (h26 [b, f b]).2.2
  have p29 := fun b b' => put _ _ _ b' _ (h29 [b, f b]).2.1 (h29 [b, f b]).2.2
  clear h26 h29
  have hx : XFn Y T58 Tryd.f58 [.ptr w 0, .i k] H (fun x => ∃ H', x = ((S.takeR k).sv, H') ∧ Str w (S.takeS k) H' ∧ FrameW w H H') := by
    unfold XFn Tryd.f58
    rw [enter_2 _ (by decide)]
    unfold St.takeR St.takeS
    by_cases hk : S.peek.k = k
    · rw [if_pos hk, if_pos hk]
      generalize S.peek = p at *
      subst hk
      simp [-getElem?_pos, List.getElem?_cons_zero, List.getElem?_cons_succ, T58_eq, hf, e26, k26, sl26, Tp.sv]
      exact p26 _ _
    · rw [if_neg hk, if_neg hk]
      generalize S.peek = p at *
      simp [-getElem?_pos, List.getElem?_cons_zero, List.getElem?_cons_succ, T58_eq, hf, e29, k29, sl29, hk, Tp.sv, zTp]
      exact p29 _ _
  obtain ⟨r, H', g1, H2, g2, g3⟩ := all_of_XFn (by rfl) hx
  cases g2
  exact ⟨_, g1, g3⟩
noncomputable def T32 : FuncId → Option Pm.Spec := tab [(25, .heap (arunAll Y T25 Tryd.f25)), (29, .heap (arunAll Y T26 Tryd.f29)), (58, .heap (arunAll Y T58 Tryd.f58))]
theorem T32_eq (g : Nat) : T32 g = tab [(25, .heap (arunAll Y T25 Tryd.f25)), (29, .heap (arunAll Y T26 Tryd.f29)), (58, .heap (arunAll Y T58 Tryd.f58))] g := rfl
theorem tok32 (W0 : World) : TOk Tryd.prog W0 T32 := tok_cons (meets25 W0) (tok_cons (meets29 W0) (tok_cons (meets58 W0) tok_nil))
theorem meets32 (W0 : World) : Enterable Tryd.prog 32 ∧ Meets Tryd.prog W0 32 (specFn (.heap (arunAll Y T32 Tryd.f32))) := meets_heap env (tok32 W0) mixed Tryd.func32 (by kernel_rfl) (by kernel_rfl)
theorem all32 {w : Nat} {S : St} {H : List Blk} (h : Str w S H) : ∃ H', arunAll Y T32 Tryd.f32 [.ptr w 0] H = some (.str (S.takeR 1).tx, H') ∧ Str w (S.takeS 1) H' ∧ FrameW w H H' := by
  obtain ⟨H1, hf, s1, f1⟩ := all58 h 1
  have hx : XFn Y T32 Tryd.f32 [.ptr w 0] H (fun x => x = (.str (S.takeR 1).tx, H1)) := by
    unfold XFn Tryd.f32
    rw [enter_1 _ (by decide)]
    generalize S.takeR 1 = p at *
    simp [-getElem?_pos, List.getElem?_cons_zero, List.getElem?_cons_succ, T32_eq, hf, Tp.sv]
  obtain ⟨r, H', g1, g2⟩ := all_of_XFn (by rfl) hx
  cases g2
  exact ⟨_, g1, s1, f1⟩
theorem meets34 (W0 : World) : Enterable Tryd.prog 34 ∧ Meets Tryd.prog W0 34 (specFn (.heap (arunAll Y T32 Tryd.f34))) := meets_heap env (tok32 W0) mixed Tryd.func34 (by kernel_rfl) (by kernel_rfl)
theorem all34 {w : Nat} {S : St} {H : List Blk} (h : Str w S H) : ∃ H', arunAll Y T32 Tryd.f34 [.ptr w 0] H = some (.str (S.takeR 3).b, H') ∧ Str w (S.takeS 3) H' ∧ FrameW w H H' := by
  obtain ⟨H1, hf, s1, f1⟩ := all58 h 3
  have hx : XFn Y T32 Tryd.f34 [.ptr w 0] H (fun x => x = (.str (S.takeR 3).b, H1)) := by
    unfold XFn Tryd.f34
    rw [enter_1 _ (by decide)]
    generalize S.takeR 3 = p at *
    simp [-getElem?_pos, List.getElem?_cons_zero, List.getElem?_cons_succ, T32_eq, hf, Tp.sv]
  obtain ⟨r, H', g1, g2⟩ := all_of_XFn (by rfl) hx
  cases g2
  exact ⟨_, g1, s1, f1⟩
theorem meets33 (W0 : World) : Enterable Tryd.prog 33 ∧ Meets Tryd.prog W0 33 (specFn (.heap (arunAll Y T32 Tryd.f33))) := meets_heap env (tok32 W0) mixed Tryd.func33 (by kernel_rfl) (by kernel_rfl)
def St.out (S : St) (lo hi : Int) : Bool := decide (S.peek.k = 2) && (decide (S.peek.v < lo) || decide (hi < S.peek.v))
theorem all33 {w : Nat} {S : St} {H : List Blk} (h : Str w S H) (lo hi : Int) : ∃ H', arunAll Y T32 Tryd.f33 [.ptr w 0, .i lo, .i hi] H = some (.i (if S.out lo hi = true then 0 else (S.takeR 2).v), H') ∧ Str w (if S.out lo hi = true then S.fail 2 else S.takeS 2) H' ∧ FrameW w H H' := by
  obtain ⟨b, hf⟩ := all25 h
  obtain ⟨f58, h58⟩ := Classical.axiomOfChoice (fun l => all58 (h.app l) 2)
  obtain ⟨f29, h29⟩ := Classical.axiomOfChoice (fun l => all29 (h.app l) 2)
  have e58 := fun l => (h58 l).1
  have e29 := fun l => (h29 l).1
  have p58 := fun l => (⟨(h58 l).2.1, FrameW.trans (FrameW.app w H l) (h58 l).2.2⟩ : _ ∧ FrameW w H _)
  have p29 := fun l => (⟨(h29 l).2.1, FrameW.trans (FrameW.app w H l) (h29 l).2.2⟩ : _ ∧ FrameW w H _)
  clear h58 h29
  have hx : XFn Y T32 Tryd.f33 [.ptr w 0, .i lo, .i hi] H (fun x => ∃ H', x = (.i (if S.out lo hi = true then 0 else (S.takeR 2).v), H') ∧ Str w (if S.out lo hi = true then S.fail 2 else S.takeS 2) H' ∧ FrameW w H H') := by
    unfold XFn Tryd.f33
    rw [enter_3 _ (by decide)]
    unfold St.out
    generalize S.takeR 2 = q at *
    generalize S.takeS 2 = S2 at *
    generalize S.fail 2 = S3 at *
    generalize S.peek = p at *
    by_cases h1 : p.k = 2
    · by_cases h2 : p.v < lo
      · simp [-getElem?_pos, -Int.not_lt, -Int.not_le, List.getElem?_cons_zero, List.getElem?_cons_succ, T32_eq, hf, e58, e29, ga0, ga1, sa0, sa1, Tp.sv, h1, h2]
        exact p29 _
      · by_cases h3 : hi < p.v
        · simp [-getElem?_pos, -Int.not_lt, -Int.not_le, List.getElem?_cons_zero, List.getElem?_cons_succ, T32_eq, hf, e58, e29, ga0, ga1, sa0, sa1, Tp.sv, h1, h2, h3]
          exact p29 _
        · simp [-getElem?_pos, -Int.not_lt, -Int.not_le, List.getElem?_cons_zero, List.getElem?_cons_succ, T32_eq, hf, e58, e29, ga0, ga1, sa0, sa1, Tp.sv, h1, h2, h3]
          exact p58 _
    · simp [-getElem?_pos, -Int.not_lt, -Int.not_le, List.getElem?_cons_zero, List.getElem?_cons_succ, T32_eq, hf, e58, e29, ga0, ga1, sa0, sa1, Tp.sv, h1]
      exact p58 _
  obtain ⟨r, H', g1, H2, g2, g3⟩ := all_of_XFn (by rfl) hx
  cases g2
  exact ⟨_, g1, g3⟩
end Go.Proofs.YtkbfgmneibabgaaDoor
namespace Go.Proofs.YtkbfgmneibabgaaDoor
open Go Go.Pm Go.RowKit
open LexP hiding place Sep Run
/-- A row, as it is read. -/
structure RowG (t : TypeId) (x : SV) (es : List (List PV)) : Prop where
  len : aLen Y t x = some es.length
  at_ : ∀ (i : Nat) (a : List PV), es[i]? = some a → aIndexAddr Y t x (i : Int) = some (.cptr a)
  live : live x = some x
  cells : cellsOf x = some [x]
structure Qs where
  a : Nat
  e : Int
  p : Nat
def zTk : Tk := ⟨0, [], 0, [], 0, false⟩
def Mod (v : Nat) (x : SV) (Q : Qs) (H : List Blk) : Prop := H[v]? = some (.box (some 68) [x, .i Q.a, .i Q.e, .i Q.p])
def nx (m : List Tk) (Q : Qs) : Tk := if Q.e = 0 then m.getD Q.a zTk else zTk
def adv (m : List Tk) (Q : Qs) : Qs := if Q.e = 0 ∧ (nx m Q).kind ≠ 0 then { Q with a := Q.a + 1 } else Q
def failQ (m : List Tk) (Q : Qs) (k : Int) : Qs := if Q.e = 0 ∧ k ≠ 0 then { Q with e := k, p := (nx m Q).pos } else Q
def kindR (m : List Tk) (Q : Qs) (k : Int) : Tk := if Q.e = 0 ∧ (nx m Q).kind = k then nx m Q else zTk
def kindQ (m : List Tk) (Q : Qs) (k : Int) : Qs := if Q.e = 0 ∧ (nx m Q).kind = k then adv m Q else failQ m Q 13
/-- What a model is of. -/
structure Mdl (m : List Tk) (x : SV) (Q : Qs) : Prop where
  row : RowG 27 x (rfRow m)
  len : m.length ≤ 100000
  at_ : Q.e = 0 → Q.a < m.length
theorem Mdl.get {m : List Tk} {x : SV} {Q : Qs} (h : Mdl m x Q) (he : Q.e = 0) : (rfRow m)[Q.a]? = some (rfC (nx m Q)) := by
  have := h.at_ he
  simp [rfRow, nx, he, this]
theorem Mod.lt {v : Nat} {x : SV} {Q : Qs} {H : List Blk} (h : Mod v x Q H) : v < H.length := (List.getElem?_eq_some_iff.1 h).1
theorem Mod.app {v : Nat} {x : SV} {Q : Qs} {H : List Blk} (h : Mod v x Q H) (l : List Blk) : Mod v x Q (H ++ l) := by
  have := h.lt
  unfold Mod at h ⊢; rw [List.getElem?_append_left this]; exact h
theorem Mod.fr {v w : Nat} {x : SV} {Q : Qs} {H H' : List Blk} (h : Mod v x Q H) (hf : FrameW w H H') (hne : v ≠ w) : Mod v x Q H' := by
  have := h.lt
  unfold Mod at h ⊢; rw [hf.2 v this hne]; exact h
theorem meets59 (W0 : World) : Enterable Tryd.prog 59 ∧ Meets Tryd.prog W0 59 (specFn (.heap (arunAll Y T0 Tryd.f59))) := meets_heap env tok_nil mixed Tryd.func59 (by kernel_rfl) (by kernel_rfl)
theorem all59 {m : List Tk} {x : SV} {Q : Qs} (M : Mdl m x Q) {v : Nat} {H : List Blk} (h : Mod v x Q H) : ∃ b, arunAll Y T0 Tryd.f59 [.ptr v 0] H = some (.agg ((rfC (nx m Q)).map .pv), H ++ [b]) := by
  have hlt := h.lt
  have g0 : ∀ l, (H ++ l)[v]? = some (.box (some 68) [x, .i Q.a, .i Q.e, .i Q.p]) := fun l => h.app l
  have hlen := M.row.len
  have hml : (rfRow m).length = m.length := by simp [rfRow]
  rw [hml] at hlen
  have hx : XFn Y T0 Tryd.f59 [.ptr v 0] H (fun y => ∃ b, y = (.agg ((rfC (nx m Q)).map .pv), H ++ [b])) := by
    unfold XFn Tryd.f59
    rw [enter_1 _ (by decide)]
    by_cases he : Q.e = 0
    · have hg := M.row.at_ _ _ (M.get he)
      have ha := M.at_ he
      have haz : ¬ (m.length : Int) ≤ (Q.a : Int) := by omega
      have han : ¬ m.length ≤ Q.a := by omega
      generalize nx m Q = t at *
      unfold rfC at hg ⊢
      simp [-aLen, -aIndexAddr, -getElem?_pos, -Int.not_le, -Nat.not_le, List.getElem?_cons_zero, List.getElem?_cons_succ, g0, he, hlen, M.row.live, hg, haz, han, set_last, get_last]
    · have ht : nx m Q = zTk := by simp [nx, he]
      rw [ht]
      simp [-aLen, -aIndexAddr, -getElem?_pos, List.getElem?_cons_zero, List.getElem?_cons_succ, g0, he, set_last, get_last, rfC, zTk]
  obtain ⟨r, H', g1, b, g2⟩ := all_of_XFn (by rfl) hx
  cases g2
  exact ⟨b, g1⟩
theorem meets61 (W0 : World) : Enterable Tryd.prog 61 ∧ Meets Tryd.prog W0 61 (specFn (.heap (arunAll Y T0 Tryd.f61))) := meets_heap env tok_nil mixed Tryd.func61 (by kernel_rfl) (by kernel_rfl)
theorem all61 {m : List Tk} {x : SV} {Q : Qs} (M : Mdl m x Q) {v : Nat} {H : List Blk} (h : Mod v x Q H) : ∃ H', arunAll Y T0 Tryd.f61 [.ptr v 0] H = some (.undef, H') ∧ Mod v x (adv m Q) H' ∧ FrameW v H H' := by
  have hlt := h.lt
  have g0 : H[v]? = some (.box (some 68) [x, .i Q.a, .i Q.e, .i Q.p]) := h
  have hx : XFn Y T0 Tryd.f61 [.ptr v 0] H (fun y => ∃ H', y = (.undef, H') ∧ Mod v x (adv m Q) H' ∧ FrameW v H H') := by
    unfold XFn Tryd.f61
    rw [enter_1 _ (by decide)]
    unfold adv
    by_cases he : Q.e = 0
    · have hg := M.row.at_ _ _ (M.get he)
      have ha := M.at_ he
      have w1 : IntKind.i64.wrap ((Q.a : Int) + 1) = ((Q.a + 1 : Nat) : Int) := by have := M.len; rw [wrap64 (by omega) (by omega)]; omega
      generalize nx m Q = t at *
      unfold rfC at hg
      by_cases hk : t.kind = 0
      · rw [if_neg (by simp [hk])]
        simp [-aLen, -aIndexAddr, -getElem?_pos, List.getElem?_cons_zero, List.getElem?_cons_succ, g0, he, M.row.live, hg, hk]
        exact ⟨h, FrameW.refl _ _⟩
      · rw [if_pos ⟨he, hk⟩]
        have fin : Mod v x { Q with a := Q.a + 1 } (H.set v (.box (some 68) [x, .i ((Q.a + 1 : Nat) : Int), .i Q.e, .i Q.p])) ∧ FrameW v H (H.set v (.box (some 68) [x, .i ((Q.a + 1 : Nat) : Int), .i Q.e, .i Q.p])) :=
          ⟨List.getElem?_set_self hlt, FrameW.set v H _⟩
        generalize ((Q.a + 1 : Nat) : Int) = A at *
        rw [he] at fin
        simp [-aLen, -aIndexAddr, -getElem?_pos, List.getElem?_cons_zero, List.getElem?_cons_succ, g0, he, M.row.live, hg, hk, w1]
        exact fin
    · rw [if_neg (by simp [he])]
      simp [-aLen, -aIndexAddr, -getElem?_pos, List.getElem?_cons_zero, List.getElem?_cons_succ, g0, he]
      exact ⟨h, FrameW.refl _ _⟩
  obtain ⟨r, H', g1, H2, g2, g3⟩ := all_of_XFn (by rfl) hx
  cases g2
  exact ⟨_, g1, g3⟩
theorem meets62 (W0 : World) : Enterable Tryd.prog 62 ∧ Meets Tryd.prog W0 62 (specFn (.heap (arunAll Y T0 Tryd.f62))) := meets_heap env tok_nil mixed Tryd.func62 (by kernel_rfl) (by kernel_rfl)
theorem all62 {m : List Tk} {x : SV} {Q : Qs} (M : Mdl m x Q) {v : Nat} {H : List Blk} (h : Mod v x Q H) (k : Int) : ∃ H', arunAll Y T0 Tryd.f62 [.ptr v 0, .i k] H = some (.undef, H') ∧ Mod v x (failQ m Q k) H' ∧ FrameW v H H' := by
  have hlt := h.lt
  have g0 : H[v]? = some (.box (some 68) [x, .i Q.a, .i Q.e, .i Q.p]) := h
  have gs : ∀ b, (H.set v b)[v]? = some b := fun b => List.getElem?_set_self hlt
  have hx : XFn Y T0 Tryd.f62 [.ptr v 0, .i k] H (fun y => ∃ H', y = (.undef, H') ∧ Mod v x (failQ m Q k) H' ∧ FrameW v H H') := by
    unfold XFn Tryd.f62
    rw [enter_2 _ (by decide)]
    unfold failQ
    by_cases he : Q.e = 0
    · by_cases hk : k = 0
      · rw [if_neg (by simp [hk])]
        simp [-aLen, -aIndexAddr, -getElem?_pos, List.getElem?_cons_zero, List.getElem?_cons_succ, g0, he, hk]
        exact ⟨h, FrameW.refl _ _⟩
      · rw [if_pos ⟨he, hk⟩]
        have hg := M.row.at_ _ _ (M.get he)
        generalize nx m Q = t at *
        unfold rfC at hg
        have fin : Mod v x { Q with e := k, p := t.pos } (H.set v (.box (some 68) [x, .i Q.a, .i k, .i t.pos])) ∧ FrameW v H (H.set v (.box (some 68) [x, .i Q.a, .i k, .i t.pos])) :=
          ⟨List.getElem?_set_self hlt, FrameW.set v H _⟩
        simp [-aLen, -aIndexAddr, -getElem?_pos, List.getElem?_cons_zero, List.getElem?_cons_succ, g0, he, M.row.live, hg, hk, gs]
        exact fin
    · rw [if_neg (by simp [he])]
      simp [-aLen, -aIndexAddr, -getElem?_pos, List.getElem?_cons_zero, List.getElem?_cons_succ, g0, he]
      exact ⟨h, FrameW.refl _ _⟩
  obtain ⟨r, H', g1, H2, g2, g3⟩ := all_of_XFn (by rfl) hx
  cases g2
  exact ⟨_, g1, g3⟩
noncomputable def T63 : FuncId → Option Pm.Spec := tab [(59, .heap (arunAll Y T0 Tryd.f59)), (61, .heap (arunAll Y T0 Tryd.f61)), (62, .heap (arunAll Y T0 Tryd.f62))]
theorem T63_eq (g : Nat) : T63 g = tab [(59, .heap (arunAll Y T0 Tryd.f59)), (61, .heap (arunAll Y T0 Tryd.f61)), (62, .heap (arunAll Y T0 Tryd.f62))] g := rfl
theorem tok63 (W0 : World) : TOk Tryd.prog W0 T63 := tok_cons (meets59 W0) (tok_cons (meets61 W0) (tok_cons (meets62 W0) tok_nil))
theorem meets63 (W0 : World) : Enterable Tryd.prog 63 ∧ Meets Tryd.prog W0 63 (specFn (.heap (arunAll Y T63 Tryd.f63))) := meets_heap env (tok63 W0) mixed Tryd.func63 (by kernel_rfl) (by kernel_rfl)
noncomputable def T60 : FuncId → Option Pm.Spec := tab [(46, .heap (arunAll Y T46 Tryd.f46))]
theorem T60_eq (g : Nat) : T60 g = tab [(46, .heap (arunAll Y T46 Tryd.f46))] g := rfl
theorem tok60 (W0 : World) : TOk Tryd.prog W0 T60 := tok_cons (meets46 W0) tok_nil
theorem meets60 (W0 : World) : Enterable Tryd.prog 60 ∧ Meets Tryd.prog W0 60 (specFn (.heap (arunAll Y T60 Tryd.f60))) := meets_heap env (tok60 W0) mixed Tryd.func60 (by kernel_rfl) (by kernel_rfl)
end Go.Proofs.YtkbfgmneibabgaaDoor
namespace Go.Proofs.YtkbfgmneibabgaaDoor
open Go Go.Pm Go.RowKit
open LexP hiding place Sep Run
theorem all63 {m : List Tk} {x : SV} {Q : Qs} (M : Mdl m x Q) {v : Nat} {H : List Blk} (h : Mod v x Q H) (k : Int) :
    ∃ H' b, arunAll Y T63 Tryd.f63 [.ptr v 0, .i k] H = some (.tuple [.agg ((rfC (kindR m Q k)).map .pv), .bool b], H') ∧ Mod v x (kindQ m Q k) H' ∧ FrameW v H H' := by
  obtain ⟨f, hf⟩ := Classical.axiomOfChoice (fun b => all59 M (h.app [b]))
  have hf : ∀ b, arunAll Y T0 Tryd.f59 [.ptr v 0] (H ++ [b]) = some (.agg ((rfC (nx m Q)).map .pv), H ++ [b, f b]) := fun b => by simpa using hf b
  obtain ⟨f61, h61⟩ := Classical.axiomOfChoice (fun l => all61 M (h.app l))
  obtain ⟨f62, h62⟩ := Classical.axiomOfChoice (fun l => all62 M (h.app l) 13)
  have e61 := fun l => (h61 l).1
  have e62 := fun l => (h62 l).1
  have hlt := h.lt
  have g0 : ∀ l, (H ++ l)[v]? = some (.box (some 68) [x, .i Q.a, .i Q.e, .i Q.p]) := fun l => h.app l
  have keep : ∀ (G : List Blk) (b c : Blk), FrameW v (H ++ [b, c]) G → G[H.length]? = some b := fun G b c hG => by rw [hG.2 H.length (by simp) (by omega)]; simp
  have put : ∀ (G : List Blk) (b c b' : Blk) (Q' : Qs), Mod v x Q' G → FrameW v (H ++ [b, c]) G → Mod v x Q' (G.set H.length b') ∧ FrameW v H (G.set H.length b') := fun G b c b' Q' hs hG => by
    have hl := hs.lt
    refine ⟨by unfold Mod at hs ⊢; rw [List.getElem?_set_ne (by omega)]; exact hs, ?_, fun j hj hn => ?_⟩
    · have := hG.1; simp at this ⊢; omega
    · rw [List.getElem?_set_ne (by omega), hG.2 j (by simp; omega) hn, List.getElem?_append_left hj]
  have slf : ∀ (G : List Blk) (b c b' : Blk), FrameW v (H ++ [b, c]) G → (G.set H.length b')[H.length]? = some b' := fun G b c b' hG => by
    have := hG.1; simp at this
    exact List.getElem?_set_self (by omega)
  have k61 := fun b c => keep _ _ _ (h61 [b, c]).2.2
  have k62 := fun b c => keep _ _ _ (h62 [b, c]).2.2
  have sl61 := fun b c b' => slf _ _ _ b' (h61 [b, c]).2.2
  have sl62 := fun b c b' => slf _ _ _ b' (h62 [b, c]).2.2
  have p61 := fun b c b' => put _ _ _ b' _ (h61 [b, c]).2.1 (h61 [b, c]).2.2
  have p62 := fun b c b' => put _ _ _ b' _ (h62 [b, c]).2.1 (h62 [b, c]).2.2
  clear h61 h62
  have hx : XFn Y T63 Tryd.f63 [.ptr v 0, .i k] H (fun y => ∃ H' b, y = (.tuple [.agg ((rfC (kindR m Q k)).map .pv), .bool b], H') ∧ Mod v x (kindQ m Q k) H' ∧ FrameW v H H') := by
    unfold XFn Tryd.f63
    rw [enter_2 _ (by decide)]
    unfold kindR kindQ
    by_cases he : Q.e = 0
    · by_cases hk : (nx m Q).kind = k
      · rw [if_pos ⟨he, hk⟩, if_pos ⟨he, hk⟩]
        generalize nx m Q = t at *
        generalize adv m Q = Q2 at *
        subst hk
        unfold rfC at hf ⊢
        simp [-getElem?_pos, List.getElem?_cons_zero, List.getElem?_cons_succ, T63_eq, g0, hf, he, ga0, sa0, e61, k61, sl61]
        exact p61 _ _ _
      · rw [if_neg (by simp [hk]), if_neg (by simp [hk])]
        generalize nx m Q = t at *
        generalize failQ m Q 13 = Q2 at *
        unfold rfC at hf ⊢
        simp [-getElem?_pos, List.getElem?_cons_zero, List.getElem?_cons_succ, T63_eq, g0, hf, he, hk, ga0, sa0, e62, k62, sl62, zTk]
        exact p62 _ _ _
    · have hq : failQ m Q 13 = Q := by unfold failQ; rw [if_neg (by simp [he])]
      rw [if_neg (by simp [he]), if_neg (by simp [he]), hq]
      have ht : nx m Q = zTk := by simp [nx, he]
      rw [ht] at hf
      unfold rfC zTk at hf
      simp [-getElem?_pos, List.getElem?_cons_zero, List.getElem?_cons_succ, T63_eq, g0, hf, he, ga0, sa0, zTk, rfC]
      exact ⟨h.app _, FrameW.app v H _⟩
  obtain ⟨r, H', g1, H2, b, g2, g3⟩ := all_of_XFn (by rfl) hx
  cases g2
  exact ⟨_, b, g1, g3⟩
/-- What a stream holds, out of the model. -/
def enT (s : Bs) (m : List Tk) : Tp := match m.getLast? with
  | some E => tp s E
  | none => zTp
def sto (s : Bs) (m : List Tk) (Q : Qs) : St :=
  ⟨(m.dropLast.drop Q.a).map (tp s), enT s m, if Q.e = 0 then 0 else (LexP.place s Q.p).1, if Q.e = 0 then 0 else (LexP.place s Q.p).2, Q.e⟩
def pk (s : Bs) (m : List Tk) (Q : Qs) : Tp := if Q.e = 0 then tp s (nx m Q) else zTp
/-- The last alone is an end. -/
structure Ends (m : List Tk) : Prop where
  last : ∀ (i : Nat) (t : Tk), m[i]? = some t → (t.kind = 0 ↔ i + 1 = m.length)
theorem sto_peek {s : Bs} {m : List Tk} {Q : Qs} (ha : Q.e = 0 → Q.a < m.length) : (sto s m Q).peek = pk s m Q := by
  unfold St.peek pk sto
  by_cases he : Q.e = 0
  · have ha := ha he
    simp only [he, if_true]
    have hn : nx m Q = m[Q.a] := by simp [nx, he, ha]
    rw [hn]
    by_cases hl : Q.a + 1 = m.length
    · have : m.dropLast.drop Q.a = [] := by rw [List.drop_eq_nil_iff]; simp; omega
      rw [this]
      have hg : m.getLast? = some m[Q.a] := by rw [List.getLast?_eq_getElem?, show m.length - 1 = Q.a by omega]; simp [ha]
      simp [enT, hg]
    · have h1 : Q.a < m.dropLast.length := by simp; omega
      rw [List.drop_eq_getElem_cons h1]
      simp
  · simp [he]
theorem sto_nxt {s : Bs} {m : List Tk} {Q : Qs} (E : Ends m) (ha : Q.e = 0 → Q.a < m.length) : (sto s m Q).nxt = sto s m (adv m Q) := by
  unfold St.nxt adv
  by_cases he : Q.e = 0
  · have ha := ha he
    have hn : nx m Q = m[Q.a] := by simp [nx, he, ha]
    have hE := E.last Q.a m[Q.a] (by simp [ha])
    have hse : (sto s m Q).e = 0 := he
    rw [if_pos hse, hn]
    by_cases hl : Q.a + 1 = m.length
    · rw [if_neg (by simp [hE.2 hl])]
      have : m.dropLast.drop Q.a = [] := by rw [List.drop_eq_nil_iff]; simp; omega
      unfold sto
      rw [this]
      rfl
    · rw [if_pos ⟨he, fun h => hl (hE.1 h)⟩]
      unfold sto
      have ht : ((m.dropLast.drop Q.a).map (tp s)).tail = (m.dropLast.drop (Q.a + 1)).map (tp s) := by
        rw [← List.tail_drop]
        cases m.dropLast.drop Q.a <;> rfl
      simp only [ht, he]
  · have hse : ¬ (sto s m Q).e = 0 := he
    rw [if_neg hse, if_neg (by simp [he])]
theorem sto_fail {s : Bs} {m : List Tk} {Q : Qs} (ha : Q.e = 0 → Q.a < m.length) (k : Int) : (sto s m Q).fail k = sto s m (failQ m Q k) := by
  unfold St.fail failQ
  rw [sto_peek ha]
  by_cases h : Q.e = 0 ∧ k ≠ 0
  · have hs : (sto s m Q).e = 0 ∧ k ≠ 0 := h
    rw [if_pos hs, if_pos h]
    unfold sto pk
    simp only [h.1, if_true]
    rw [if_neg h.2, if_neg h.2]
    rfl
  · have hs : ¬ ((sto s m Q).e = 0 ∧ k ≠ 0) := h
    rw [if_neg hs, if_neg h]
theorem adv_ok {m : List Tk} {Q : Qs} (E : Ends m) (ha : Q.e = 0 → Q.a < m.length) : (adv m Q).e = 0 → (adv m Q).a < m.length := by
  unfold adv
  split
  · rename_i h
    intro _
    have h1 := ha h.1
    have hn : nx m Q = m[Q.a] := by simp [nx, h.1, h1]
    have hE := E.last Q.a m[Q.a] (by simp [h1])
    have : ¬ Q.a + 1 = m.length := fun e => h.2 (by rw [hn]; exact hE.2 e)
    show Q.a + 1 < m.length
    omega
  · exact ha
theorem fail_ok {m : List Tk} {Q : Qs} (ha : Q.e = 0 → Q.a < m.length) (k : Int) : (failQ m Q k).e = 0 → (failQ m Q k).a < m.length := by
  unfold failQ
  split
  · rename_i h
    intro e; exact absurd e h.2
  · exact ha
theorem Mdl.adv {m : List Tk} {x : SV} {Q : Qs} (M : Mdl m x Q) (E : Ends m) : Mdl m x (adv m Q) := ⟨M.row, M.len, adv_ok E M.at_⟩
theorem Mdl.fail {m : List Tk} {x : SV} {Q : Qs} (M : Mdl m x Q) (k : Int) : Mdl m x (failQ m Q k) := ⟨M.row, M.len, fail_ok M.at_ k⟩
theorem Mdl.kind {m : List Tk} {x : SV} {Q : Qs} (M : Mdl m x Q) (E : Ends m) (k : Int) : Mdl m x (kindQ m Q k) := by
  unfold kindQ
  split
  · exact M.adv E
  · exact M.fail 13
/-- Taking a token of a kind. -/
theorem sto_takeS {s : Bs} {m : List Tk} {Q : Qs} (E : Ends m) (ha : Q.e = 0 → Q.a < m.length) {k : Int} (hk : k ≠ 0) : (sto s m Q).takeS k = sto s m (kindQ m Q k) := by
  unfold St.takeS kindQ
  rw [sto_peek ha, sto_nxt E ha, sto_fail ha]
  unfold pk
  by_cases he : Q.e = 0
  · simp only [he, if_true, true_and]
    by_cases h : (nx m Q).kind = k
    · rw [if_pos h, if_pos (show (tp s (nx m Q)).k = k from h)]
    · rw [if_neg h, if_neg (show ¬ (tp s (nx m Q)).k = k from h)]
  · have : ¬ (zTp.k = k) := fun h => hk h.symm
    simp only [he, if_false, false_and, this]
theorem takeR_tx {s : Bs} {m : List Tk} {Q : Qs} (ha : Q.e = 0 → Q.a < m.length) {k : Int} (hk : k ≠ 0) : ((sto s m Q).takeR k).tx = (kindR m Q k).text ∧ ((sto s m Q).takeR k).v = (kindR m Q k).val ∧ ((sto s m Q).takeR k).b = (kindR m Q k).bytes := by
  unfold St.takeR kindR
  rw [sto_peek ha]
  unfold pk
  by_cases he : Q.e = 0
  · simp only [he, if_true, true_and]
    by_cases h : (nx m Q).kind = k
    · rw [if_pos h, if_pos (show (tp s (nx m Q)).k = k from h)]; exact ⟨rfl, rfl, rfl⟩
    · rw [if_neg h, if_neg (show ¬ (tp s (nx m Q)).k = k from h)]; exact ⟨rfl, rfl, rfl⟩
  · have : ¬ (zTp.k = k) := fun h => hk h.symm
    simp only [he, if_false, false_and, this]; exact ⟨rfl, rfl, rfl⟩
theorem all60 {m : List Tk} {x : SV} {Q : Qs} (M : Mdl m x Q) {u ks : Nat} {s : Bs} {ty : Option TypeId} {H : List Blk} (h : Mod u x Q H) (hk : H[ks]? = some (.box ty [.str s])) (hs : s.length ≤ 10000000) (hp : ∀ t ∈ m, t.pos ≤ s.length) :
    ∃ l, arunAll Y T60 Tryd.f60 [(pk s m Q).sv, .agg ((rfC (nx m Q)).map .pv), .ptr u 0, .ptr ks 0] H = some (.bool true, H ++ l) := by
  have g0 : ∀ l, (H ++ l)[u]? = some (.box (some 68) [x, .i Q.a, .i Q.e, .i Q.p]) := fun l => h.app l
  have hkl := (List.getElem?_eq_some_iff.1 hk).1
  have hx : XFn Y T60 Tryd.f60 [(pk s m Q).sv, .agg ((rfC (nx m Q)).map .pv), .ptr u 0, .ptr ks 0] H (fun y => ∃ l, y = (.bool true, H ++ l)) := by
    unfold XFn Tryd.f60
    rw [enter_4 _ (by decide)]
    by_cases he : Q.e = 0
    · have hps : (nx m Q).pos ≤ s.length := by
        have ha := M.at_ he
        have : nx m Q = m[Q.a] := by simp [nx, he, ha]
        rw [this]; exact hp _ (List.getElem_mem ha)
      have h46 := fun l => all46s (t := nx m Q) (H := H ++ l) (by rw [List.getElem?_append_left hkl]; exact hk) hps hs
      have hpk : pk s m Q = tp s (nx m Q) := by simp [pk, he]
      rw [hpk]
      generalize nx m Q = t at *
      obtain ⟨fa, h46⟩ := Classical.axiomOfChoice h46
      obtain ⟨fb, h46⟩ := Classical.axiomOfChoice h46
      unfold tkC rfC at h46
      simp only [List.map_cons, List.map_nil, List.append_assoc] at h46
      unfold rfC tp
      simp [-getElem?_pos, List.getElem?_cons_zero, List.getElem?_cons_succ, T60_eq, g0, he, ga0, ga1, h46, Tp.sv]
    · have hpk : pk s m Q = zTp := by simp [pk, he]
      have ht : nx m Q = zTk := by simp [nx, he]
      rw [hpk, ht]
      unfold rfC zTp zTk
      simp [-getElem?_pos, List.getElem?_cons_zero, List.getElem?_cons_succ, T60_eq, g0, he, ga0, ga1, Tp.sv]
  obtain ⟨r, H', g1, l, g2⟩ := all_of_XFn (by rfl) hx
  cases g2
  exact ⟨l, g1⟩
end Go.Proofs.YtkbfgmneibabgaaDoor
