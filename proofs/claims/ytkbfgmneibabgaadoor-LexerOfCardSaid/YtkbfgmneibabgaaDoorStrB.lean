/- The Stream: Next, Failed, Fail, Is, Accept, Expect, by the machine. -/
import Derived.Test.YtkbfgmneibabgaaDoorStrA
set_option linter.unusedSimpArgs false
set_option linter.unusedVariables false
set_option maxRecDepth 1000000
set_option maxHeartbeats 1000000
namespace Go.Proofs.YtkbfgmneibabgaaDoor
open Go Go.Pm Go.RowKit
open LexP hiding place Sep Run
theorem ga0 {G : List Blk} {n : Nat} (h : G.length = n) (a : Blk) (l : List Blk) : (G ++ a :: l)[n]? = some a := by subst h; simp
theorem ga1 {G : List Blk} {n : Nat} (h : G.length = n) (a b : Blk) (l : List Blk) : (G ++ a :: b :: l)[n + 1]? = some b := by subst h; simp
theorem ga2 {G : List Blk} {n : Nat} (h : G.length = n) (a b c : Blk) (l : List Blk) : (G ++ a :: b :: c :: l)[n + 2]? = some c := by subst h; simp
theorem sa0 {G : List Blk} {n : Nat} (h : G.length = n) (a x : Blk) (l : List Blk) : (G ++ a :: l).set n x = G ++ x :: l := by subst h; simp
theorem sa1 {G : List Blk} {n : Nat} (h : G.length = n) (a b x : Blk) (l : List Blk) : (G ++ a :: b :: l).set (n + 1) x = G ++ a :: x :: l := by
  subst h; rw [List.set_append_right _ _ (by omega)]; simp
theorem sa2 {G : List Blk} {n : Nat} (h : G.length = n) (a b c x : Blk) (l : List Blk) : (G ++ a :: b :: c :: l).set (n + 2) x = G ++ a :: b :: x :: l := by
  subst h; rw [List.set_append_right _ _ (by omega)]; simp
theorem gw_ {G : List Blk} {w : Nat} (h : w < G.length) (l : List Blk) : (G ++ l)[w]? = G[w]? := List.getElem?_append_left h
theorem sw_ {G : List Blk} {w : Nat} (h : w < G.length) (x : Blk) (l : List Blk) : (G ++ l).set w x = G.set w x ++ l := List.set_append_left _ _ h
theorem Str.app {w : Nat} {S : St} {H : List Blk} (h : Str w S H) (l : List Blk) : Str w S (H ++ l) := by
  have hl := h.lt
  obtain ⟨x, h1, h2⟩ := h
  exact ⟨x, h1, by rw [List.getElem?_append_left hl]; exact h2⟩
theorem FrameW.app (w : Nat) (H l : List Blk) : FrameW w H (H ++ l) := ⟨by simp, fun j hj _ => List.getElem?_append_left hj⟩
noncomputable def T26 : FuncId → Option Pm.Spec := tab [(25, .heap (arunAll Y T25 Tryd.f25)), (57, .heap (arunAll Y T0 Tryd.f57))]
theorem T26_eq (g : Nat) : T26 g = tab [(25, .heap (arunAll Y T25 Tryd.f25)), (57, .heap (arunAll Y T0 Tryd.f57))] g := rfl
theorem tok26 (W0 : World) : TOk Tryd.prog W0 T26 := tok_cons (meets25 W0) (tok_cons (meets57 W0) tok_nil)
theorem meets26 (W0 : World) : Enterable Tryd.prog 26 ∧ Meets Tryd.prog W0 26 (specFn (.heap (arunAll Y T26 Tryd.f26))) := meets_heap env (tok26 W0) mixed Tryd.func26 (by kernel_rfl) (by kernel_rfl)
theorem all26 {w : Nat} {S : St} {H : List Blk} (h : Str w S H) : ∃ H', arunAll Y T26 Tryd.f26 [.ptr w 0] H = some (S.peek.sv, H') ∧ Str w S.nxt H' ∧ FrameW w H H' := by
  have e57 := fun l => all57 (h.app l)
  obtain ⟨f, hf⟩ := Classical.axiomOfChoice (fun b => all25 (h.app [b]))
  have hf : ∀ b, arunAll Y T25 Tryd.f25 [.ptr w 0] (H ++ [b]) = some (S.peek.sv, H ++ [b, f b]) := fun b => by simpa using hf b
  have hlt := h.lt
  obtain ⟨x, h1, h2⟩ := h
  have g0 : ∀ l, (H ++ l)[w]? = some (stB x S) := fun l => by rw [List.getElem?_append_left hlt]; exact h2
  have s0 : ∀ b l, (H ++ l).set w b = H.set w b ++ l := fun b l => List.set_append_left _ _ hlt
  have hls : ∀ b : Blk, (H.set w b).length = H.length := fun b => by simp
  have fin : ∀ (x' : SV), RowT x' S.nxt.ts → S.nxt = { S with ts := S.nxt.ts } → ∀ l, Str w S.nxt (H.set w (stB x' S) ++ l) ∧ FrameW w H (H.set w (stB x' S) ++ l) := fun x' hr hn l => by
    refine ⟨Str.app ⟨x', hr, ?_⟩ l, FrameW.trans (FrameW.set w H _) (FrameW.app w _ l)⟩
    rw [List.getElem?_set_self hlt, hn]
    rfl
  have same : S.nxt = S → ∀ l, Str w S.nxt (H ++ l) ∧ FrameW w H (H ++ l) := fun e l => by
    rw [e]
    exact ⟨Str.app ⟨x, h1, h2⟩ l, FrameW.app w H l⟩
  unfold stB at g0 fin
  generalize hp : S.peek = p at *
  have hx : XFn Y T26 Tryd.f26 [.ptr w 0] H (fun x => ∃ H', x = (p.sv, H') ∧ Str w S.nxt H' ∧ FrameW w H H') := by
    unfold XFn Tryd.f26
    rw [enter_1 _ (by decide)]
    by_cases he : S.e = 0
    · rw [decide_eq_true he] at e57
      rcases h1 with ⟨ht, rfl | rfl⟩ | rfl
      · have hn : S.nxt = S := by
          unfold St.nxt; rw [if_pos he, ht]; rw [show ([] : List Tp).tail = S.ts by rw [ht]; rfl]
        simp [-getElem?_pos, List.getElem?_cons_zero, List.getElem?_cons_succ, T26_eq, hf, e57, g0, ga0, ga1, ga2, sa0, sa1, sa2, Tp.sv]
        exact same hn _
      · have hn : S.nxt = S := by
          unfold St.nxt; rw [if_pos he, ht]; rw [show ([] : List Tp).tail = S.ts by rw [ht]; rfl]
        simp [-getElem?_pos, List.getElem?_cons_zero, List.getElem?_cons_succ, T26_eq, hf, e57, g0, ga0, ga1, ga2, sa0, sa1, sa2, Tp.sv]
        exact same hn _
      · cases hts : S.ts with
        | nil =>
          have hn : S.nxt = S := by
            unfold St.nxt; rw [if_pos he, hts]; rw [show ([] : List Tp).tail = S.ts by rw [hts]; rfl]
          rw [hts] at g0
          simp [-getElem?_pos, List.getElem?_cons_zero, List.getElem?_cons_succ, T26_eq, hf, e57, g0, ga0, ga1, ga2, sa0, sa1, sa2, Tp.sv]
          exact same hn _
        | cons t r =>
          have hn : S.nxt = { S with ts := r } := by unfold St.nxt; rw [if_pos he, hts]; rfl
          have hr : RowT (.pv (.slice 7 (r.map Tp.cells))) S.nxt.ts := by rw [hn]; exact .inr rfl
          have fin := fin _ hr (by rw [hn])
          rw [hts] at g0
          have q : (0 : Int) < (r.length : Int) + 1 := by omega
          have htk : (r.map Tp.cells).take r.length = r.map Tp.cells := List.take_of_length_le (by simp)
          simp [-getElem?_pos, List.getElem?_cons_zero, List.getElem?_cons_succ, T26_eq, hf, e57, g0, s0, hls, ga0, ga1, ga2, sa0, sa1, sa2, Tp.sv, q, htk]
          exact fin _
    · rw [decide_eq_false he] at e57
      have hn : S.nxt = S := by unfold St.nxt; rw [if_neg he]
      simp [-getElem?_pos, List.getElem?_cons_zero, List.getElem?_cons_succ, T26_eq, hf, e57, g0, ga0, ga1, ga2, sa0, sa1, sa2, Tp.sv]
      exact same hn _
  obtain ⟨r, H', g1, H2, g2, g3⟩ := all_of_XFn (by rfl) hx
  cases g2
  exact ⟨_, g1, g3⟩
theorem meets27 (W0 : World) : Enterable Tryd.prog 27 ∧ Meets Tryd.prog W0 27 (specFn (.heap (arunAll Y T0 Tryd.f27))) := meets_heap env tok_nil mixed Tryd.func27 (by kernel_rfl) (by kernel_rfl)
theorem all27 {w : Nat} {S : St} {H : List Blk} (h : Str w S H) : arunAll Y T0 Tryd.f27 [.ptr w 0] H = some (.tuple [.i S.l, .i S.c, .i S.e], H) := by
  obtain ⟨x, h1, h2⟩ := h
  unfold stB at h2
  have hx : XFn Y T0 Tryd.f27 [.ptr w 0] H (fun x => x = (.tuple [.i S.l, .i S.c, .i S.e], H)) := by
    unfold XFn Tryd.f27
    rw [enter_1 _ (by decide)]
    simp [-getElem?_pos, List.getElem?_cons_zero, List.getElem?_cons_succ, h2]
  obtain ⟨r, H', g1, g2⟩ := all_of_XFn (by rfl) hx
  cases g2
  exact g1
def St.fail (S : St) (k : Int) : St := if S.e = 0 ∧ k ≠ 0 then { S with l := S.peek.l, c := S.peek.c, e := k } else S
theorem meets29 (W0 : World) : Enterable Tryd.prog 29 ∧ Meets Tryd.prog W0 29 (specFn (.heap (arunAll Y T26 Tryd.f29))) := meets_heap env (tok26 W0) mixed Tryd.func29 (by kernel_rfl) (by kernel_rfl)
theorem all29 {w : Nat} {S : St} {H : List Blk} (h : Str w S H) (k : Int) : ∃ H', arunAll Y T26 Tryd.f29 [.ptr w 0, .i k] H = some (.undef, H') ∧ Str w (S.fail k) H' ∧ FrameW w H H' := by
  have e57 := all57 h
  obtain ⟨b, hf⟩ := all25 h
  have hlt := h.lt
  have hstr := h
  obtain ⟨x, h1, h2⟩ := h
  have g0 : ∀ l, (H ++ l)[w]? = some (stB x S) := fun l => by rw [List.getElem?_append_left hlt]; exact h2
  have s0 : ∀ b l, (H ++ l).set w b = H.set w b ++ l := fun b l => List.set_append_left _ _ hlt
  have hls : ∀ b : Blk, (H.set w b).length = H.length := fun b => by simp
  have gs : ∀ b l, (H.set w b ++ l)[w]? = some b := fun b l => by rw [List.getElem?_append_left (by simpa using hlt)]; exact List.getElem?_set_self hlt
  have ss : ∀ b b' l, (H.set w b ++ l).set w b' = H.set w b' ++ l := fun b b' l => by rw [List.set_append_left _ _ (by simpa using hlt), List.set_set]
  have hne : ∀ q, H.length + q ≠ w := fun q => by omega
  have hne0 : ¬ H.length + 1 = w := by omega
  have hx : XFn Y T26 Tryd.f29 [.ptr w 0, .i k] H (fun x => ∃ H', x = (.undef, H') ∧ Str w (S.fail k) H' ∧ FrameW w H H') := by
    unfold XFn Tryd.f29
    rw [enter_2 _ (by decide)]
    by_cases he : S.e = 0
    · rw [decide_eq_true he] at e57
      by_cases hk : k = 0
      · have hn : S.fail k = S := by unfold St.fail; rw [if_neg (by simp [hk])]
        rw [hn]
        simp [T26_eq, e57, hk, hstr, FrameW.refl]
      · have hn : S.fail k = { S with l := S.peek.l, c := S.peek.c, e := k } := by unfold St.fail; rw [if_pos ⟨he, hk⟩]
        rw [hn]
        generalize S.peek = p at *
        have fin : ∀ l, Str w { S with l := p.l, c := p.c, e := k } (H.set w (stB x { S with l := p.l, c := p.c, e := k }) ++ l) ∧ FrameW w H (H.set w (stB x { S with l := p.l, c := p.c, e := k }) ++ l) := fun l =>
          ⟨Str.app (S := { S with l := p.l, c := p.c, e := k }) ⟨x, h1, List.getElem?_set_self hlt⟩ l, FrameW.trans (FrameW.set w H _) (FrameW.app w _ l)⟩
        unfold stB at g0 fin
        have hk' : ¬ k = 0 := hk
        simp [-getElem?_pos, List.getElem?_cons_zero, List.getElem?_cons_succ, T26_eq, hf, e57, hk, g0, s0, gs, ss, hls, ga0, ga1, ga2, sa0, sa1, sa2, Tp.sv, loadW_ptr, storeW_ptr, hne0]
        exact fin _
    · rw [decide_eq_false he] at e57
      have hn : S.fail k = S := by unfold St.fail; rw [if_neg (by simp [he])]
      rw [hn]
      simp [T26_eq, e57, hstr, FrameW.refl]
  obtain ⟨r, H', g1, H2, g2, g3⟩ := all_of_XFn (by rfl) hx
  cases g2
  exact ⟨_, g1, g3⟩
end Go.Proofs.YtkbfgmneibabgaaDoor
