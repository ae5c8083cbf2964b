/- The replacer built once: by hand, by the kernel, joined. -/
import Derived.Test.YtkckpmcpmngiiaaGreatDoorRows
import Derived.Tactics
import Derived.Tactics2
import Derived.Defers
import Derived.Laws.Pointers
import Derived.Laws.LoneSync
import Derived.Laws.NewBlocks
import Derived.RegionTactic
import Derived.RegionCalls
import Derived.ChangeAlike
import Derived.Test.YtkckpmcpmngiiaaGreatDoorE1
import Derived.Test.YtkckpmcpmngiiaaGreatDoorPmCut
/- sync.Once's slow road, its parts: the lock, and the two calls that it defers. -/
set_option maxRecDepth 1000000
set_option maxHeartbeats 3200000
namespace Go.Proofs.YtkckpmcpmngiiaaGreatDoor
open Go

theorem disable (w : World) : (callFunc 117 #[]).run Tryz.prog w = .ok (.value (.tuple #[])) w := run_call_mark0 Tryz.func117 (by kernel_rfl) (by kernel_rfl) (by kernel_rfl) .disable (by kernel_rfl) w
theorem enable (w : World) : (callFunc 119 #[]).run Tryz.prog w = .ok (.value (.tuple #[])) w := run_call_mark0 Tryz.func119 (by kernel_rfl) (by kernel_rfl) (by kernel_rfl) .enable (by kernel_rfl) w
theorem acquire (a : Addr) (w : World) : (callFunc 120 #[.pointer (some a)]).run Tryz.prog w = .ok (.value (.tuple #[])) w := run_call_marked Tryz.func120 (by kernel_rfl) (by kernel_rfl) (by kernel_rfl) .acquire (by kernel_rfl) a w
theorem releaseMerge (a : Addr) (w : World) : (callFunc 122 #[.pointer (some a)]).run Tryz.prog w = .ok (.value (.tuple #[])) w := run_call_marked Tryz.func122 (by kernel_rfl) (by kernel_rfl) (by kernel_rfl) .releaseMerge (by kernel_rfl) a w

/-- '(*sync/atomic.Bool).Store(true)', entered as a deferred call: the cell holds 1. -/
theorem store_deferred (a : Addr) (x : Value) (u : FrameMode) (w : World) (hc : w.cell? a = some x) (hz : w.frozen? a = false) :
    CallsD Tryz.prog 101 #[.pointer (some a), .bool true] u w fun e u' w' => u' = u ∧ (e = .returned (.tuple #[]) ∧ w' = w.drew.setCell a (.int .u32 1)) := by
  have hc' : w.drew.cell? a = some x := by go_simp
  have hz' : w.drew.frozen? a = false := by go_simp
  have hst := run_call_store (P := Tryz.prog) Tryz.func111 (by kernel_rfl) (by kernel_rfl) (by kernel_rfl) (by kernel_rfl) (k := .u32) (y := 1) hc' hz'
  go_enter_d Tryz.func101, Tryz.ntmps101
  go_wp2
  go_region_calls
  all_goals (go_end0; exact ⟨rfl, rfl⟩)

/-- '(*sync.Mutex).Unlock', entered as a deferred call, the lock held and nobody waiting: it is let go. -/
theorem unlock_deferred (a : Addr) (u : FrameMode) (w : World) (hc : w.cell? a = some (.int .i32 1)) (hz : w.frozen? a = false) :
    CallsD Tryz.prog 100 #[.pointer (some a)] u w fun e u' w' => u' = u ∧ (e = .returned (.tuple #[]) ∧ w' = w.setCell a (.int .i32 0)) := by
  have hd := disable
  have he := enable
  have hr := releaseMerge
  have hadd := run_call_add (P := Tryz.prog) Tryz.func123 (by kernel_rfl) (by kernel_rfl) (by kernel_rfl) .i32 (by kernel_rfl) (y := -1) (s := 0) hc hz (by simp [go_sem]; rfl)
  have hcv := run_convert_to_unsafe (P := Tryz.prog) (src := 172) (dst := 120) Tryz.underlying172 Tryz.underlying120 (by kernel_rfl) hc
  go_enter_d Tryz.func100, Tryz.ntmps100
  go_wp2
  go_end0
  go_wp2
  go_end0
  exact ⟨rfl, rfl⟩

/-- '(*sync.Mutex).Lock', the lock free: it is taken. -/
theorem lock_free (a : Addr) (w : World) (hc : w.cell? a = some (.int .i32 0)) (hz : w.frozen? a = false) :
    Calls Tryz.prog 99 #[.pointer (some a)] w fun e w' => e = .returned (.tuple #[]) ∧ w' = w.setCell a (.int .i32 1) := by
  have hd := disable
  have he := enable
  have ha := acquire
  have hcas := run_call_cas_hit (P := Tryz.prog) Tryz.func118 (by kernel_rfl) (by kernel_rfl) (by kernel_rfl) .i32 (by kernel_rfl) (y := 1) hc hz
  have hc' : (w.setCell a (.int .i32 1)).cell? a = some (.int .i32 1) := World.cell?_setCell_same w a _ hc
  have hcv := run_convert_to_unsafe (P := Tryz.prog) (src := 172) (dst := 120) Tryz.underlying172 Tryz.underlying120 (by kernel_rfl) hc'
  go_enter Tryz.func99, Tryz.ntmps99
  go_wp2
  first | go_end0 | (simp only [Exit.inBlock, Exit.then]; refine bodyPost_ret (results_none rfl _ _ _) rfl ?_) | refine bodyPost_ret (results_none rfl _ _ _) rfl ?_
  go_wp2
  go_end0
  exact ⟨rfl, rfl⟩
end Go.Proofs.YtkckpmcpmngiiaaGreatDoor
/- The replacer's table is built: a run. -/
set_option linter.unusedSimpArgs false
set_option linter.unusedVariables false
set_option maxRecDepth 1000000
set_option maxHeartbeats 1000000
namespace Go.Proofs.YtkckpmcpmngiiaaGreatDoor
open Go Go.Pm Go.RowKit
noncomputable def T81 : FuncId → Option Pm.Spec := tab [(102, .pure false fun _ => none), (103, .pure false fun _ => none)]
theorem tok81 (W0 : World) : TOk Tryz.prog W0 T81 := tok_cons (OkAt.none (W0 := W0) (enterable_of Tryz.func102 (by kernel_rfl)) fun _ _ h => by cases h) (tok_cons (OkAt.none (W0 := W0) (enterable_of Tryz.func103 (by kernel_rfl)) fun _ _ h => by cases h) tok_nil)
/-- The pairs. -/
def pairs : List Bs := [[38], [38, 97, 109, 112, 59], [60], [38, 108, 116, 59], [62], [38, 103, 116, 59], [34], [38, 113, 117, 111, 116, 59], [9], [38, 35, 57, 59], [10], [38, 35, 49, 48, 59]]
def rows12 : List (List PV) := pairs.map fun b => [PV.str b]
noncomputable def pre81 : Code := glue 8 (Tryz.f81.body.getD .skip) .skip
noncomputable def suf81 : Code := restN 8 (Tryz.f81.body.getD .skip)
def H81 : List Blk := [.box (some 109) [.pv (.int .u32 0), .pv (.int .i32 1), .pv (.int .u32 0), .pv .nilIface, .pv (.slice 1 rows12)]]
noncomputable def out81 : Option Out := acode Y T81 400 pre81 (enter 132 [SV.ptr 0 0] H81)
def cellsT : List SV := ((List.range 256).map rpS) ++ [.own 1 6 1 (reps.map fun b => [PV.str [b]])]
/-- What the run leaves. -/
def left81 : Option Out → Bool
  | some (.norm s) => (match s.tm[11]? with
    | some (SV.ptr 2 0) => true
    | _ => false)
  | _ => false
theorem run81 : left81 out81 = true := by kernel_rfl
noncomputable def st81 : St := match out81 with
  | some (.norm s) => s
  | _ => ⟨[], []⟩
theorem out81_eq : acode Y T81 400 pre81 (enter 132 [SV.ptr 0 0] H81) = some (.norm st81) := by
  have h := run81
  unfold st81
  show out81 = _
  cases ho : out81 with
  | none => rw [ho] at h; cases h
  | some o =>
    rw [ho] at h
    cases o with
    | norm s => rfl
    | exit id s => cases h
    | ret s => cases h
theorem st81_tm : st81.tm[11]? = some (SV.ptr 2 0) := by kernel_rfl
theorem st81_box : st81.H[2]? = some (.box (some 150) cellsT) := by kernel_rfl
theorem st81_rep : st81.H[0]? = some (.box (some 109) [.pv (.int .u32 0), .pv (.int .i32 1), .pv (.int .u32 0), .pv .nilIface, .pv (.slice 1 rows12)]) := by kernel_rfl
theorem ok81 : codeOk T81 pre81 = true := by kernel_rfl
theorem body81 : Tryz.f81.body = some (glue 8 (Tryz.f81.body.getD .skip) suf81) := by
  unfold suf81
  rw [glue_rest]
  rfl
end Go.Proofs.YtkckpmcpmngiiaaGreatDoor
/- The replacer's table is built, in the model. -/
set_option linter.unusedSimpArgs false
set_option linter.unusedVariables false
set_option maxRecDepth 1000000
set_option maxHeartbeats 1000000
namespace Go.Proofs.YtkckpmcpmngiiaaGreatDoor
open Go Go.Pm Go.RowKit
def spineOk : Nat → Code → Bool
  | 0, _ => true
  | n + 1, .seq _ b => spineOk n b
  | _, _ => false
/-- The first pieces of a code by the machine, the others in the model. -/
theorem glue_sound {W0 : World} {T : FuncId → Option Pm.Spec} (hT : TOk Tryz.prog W0 T) {t : Code} {Q : Exit → Act → World → Prop} : ∀ (n : Nat) (c : Code) {s s1 : St} {C : Cf} {a : Act}, spineOk n c = true → codeOk T (glue n c .skip) = true → Runs Y T (glue n c .skip) s (.norm s1) → InvJ W0 C → StRel C s a →
    (∀ C' a', InvJ W0 C' → Evo C C' → StRel C' s1 a' → t.wp Tryz.prog Q a' C'.w) → (glue n c t).wp Tryz.prog Q a C.w
  | 0, c, s, s1, C, a, _, _, h, I, R, hq => by
    simp only [glue] at h ⊢
    rw [runs_skip] at h
    cases h
    exact hq C a I (Evo.refl C) R
  | n + 1, c, s, s1, C, a, hsp, hok, h, I, R, hq => by
    cases c <;> simp only [spineOk] at hsp <;> try (cases hsp; done)
    rename_i x y
    simp only [glue] at h hok ⊢
    simp only [codeOk, Bool.and_eq_true] at hok
    rw [runs_seq] at h
    rcases h with ⟨s2, ⟨m, h1⟩, h2⟩ | ⟨_, h2⟩
    · refine wp_seq (wp_mono ((both_sound env hT mixed m).1 x hok.1 h1 I R) ?_)
      intro e a' w hr
      cases e <;> simp only [OutRel, Exit.then] at hr ⊢
      · obtain ⟨D, s3, e1, I', EV, R', rfl⟩ := hr
        cases e1
        exact glue_sound hT n y hsp hok.2 h2 I' R' (fun C' a'' I'' EV' R'' => hq C' a'' I'' (EV.trans EV') R'')
      · obtain ⟨D, s3, e1, _⟩ := hr; cases e1
      · obtain ⟨D, s3, e1, _⟩ := hr; cases e1
    · cases h2
/-- One box, and whatever stood before. -/
theorem one_box {w : World} {b : Nat} {arr : Array Value} {t : TypeId} {cs : List SV} {S : Nat → Nat → Prop} (hS : ∀ x o, S x o → x < w.heap.size ∧ x ≠ b) (hb : w.heap[b]? = some (.cells arr t (0, 0))) (hl : arr.size = cs.length)
    (hr : ∀ (j : Nat) (c : SV) (u : Value), cs[j]? = some c → arr[j]? = some u → RelS ⟨w, S, [.box (some t) cs], [⟨b, 0, 0, 0⟩]⟩ c u) (h1 : ∀ (j : Nat) (c : SV), cs[j]? = some c → c.one = true) : Inv ⟨w, S, [.box (some t) cs], [⟨b, 0, 0, 0⟩]⟩ := by
  have z : ∀ {k : Nat} {bl : Blk}, ([.box (some t) cs] : List Blk)[k]? = some bl → k = 0 ∧ bl = .box (some t) cs := by
    intro k bl h
    cases k with
    | zero => simp at h; exact ⟨rfl, h.symm⟩
    | succ k => simp at h
  have zg : ∀ {k : Nat} {g : GB}, ([⟨b, 0, 0, 0⟩] : List GB)[k]? = some g → k = 0 ∧ g = ⟨b, 0, 0, 0⟩ := by
    intro k g h
    cases k with
    | zero => simp at h; exact ⟨rfl, h.symm⟩
    | succ k => simp at h
  refine ⟨rfl, fun x o h => (hS x o h).1, ?_, ?_, ?_, ?_, ?_, ?_⟩
  · intro _ k cs' g e1 e2
    obtain ⟨rfl, e3⟩ := z e1
    obtain ⟨_, rfl⟩ := zg e2
    cases e3
    exact ⟨arr, t, hb, Nat.le_of_eq hl.symm, hr, h1⟩
  · intro _ k cs' g o e1 e2 hs
    obtain ⟨rfl, e3⟩ := z e1
    obtain ⟨_, rfl⟩ := zg e2
    exact (hS _ _ hs).2 rfl
  · intro k v e g e1 _
    obtain ⟨_, e3⟩ := z e1; cases e3
  · intro k v e g o e1 _ _ _
    obtain ⟨_, e3⟩ := z e1; cases e3
  · intro k t' cs' g e1 e2
    obtain ⟨rfl, e3⟩ := z e1
    obtain ⟨_, rfl⟩ := zg e2
    cases e3
    exact ⟨arr, hb, hl⟩
  · intro k k' g g' hne _ _ e1 e2
    obtain ⟨rfl, _⟩ := zg e1
    obtain ⟨rfl, _⟩ := zg e2
    exact absurd rfl hne
abbrev W0e (w : World) : World := { w with heap := #[] }
theorem j0e (w : World) (C : Cf) : J0 (W0e w) C := ⟨Nat.zero_le _, fun b h => absurd h (Nat.not_lt_zero _), fun b o h => absurd h (Nat.not_lt_zero _), fun _ _ _ => Nat.zero_le _⟩
/-- A call that leaves all blocks but one. -/
structure But (b : Nat) (w w' : World) : Prop where
  os : w'.os = w.os
  tape : w'.tape = w.tape
  output : w'.output = w.output
  size : w.heap.size ≤ w'.heap.size
  block : ∀ k, k < w.heap.size → k ≠ b → w'.heap[k]? = w.heap[k]?
theorem But.trans {b : Nat} {x y z : World} (h : But b x y) (k : But b y z) : But b x z :=
  ⟨k.os.trans h.os, k.tape.trans h.tape, k.output.trans h.output, Nat.le_trans h.size k.size, fun i hi hn => (k.block i (Nat.lt_of_lt_of_le hi h.size) hn).trans (h.block i hi hn)⟩
/-- What the cells of a replacer read as. -/
abbrev repS (d m : Int) (r o : SV) : List SV := [.pv (.int .u32 d), .pv (.int .i32 m), .pv (.int .u32 0), r, o]
/-- The table, in a world. -/
def TabIn (w : World) (b0 gr : Nat) : Prop := ∃ arr : Array Value, w.heap[gr]? = some (.cells arr 150 (0, 0)) ∧ arr.size = 257 ∧ gr ≠ b0 ∧
  ∀ (j : Nat) (p : PV) (u : Value), cellsR[j]? = some (.pv p) → arr[j]? = some u → RelP w (fun b _ => b < w.heap.size ∧ b ≠ gr ∧ b ≠ b0) p u
theorem evo_but {C C' : Cf} {b : Nat} {g : GB} (hG : C.G = [g]) (hb : g.blk = b) (h : Evo C C') : But b C.w C'.w :=
  ⟨h.os, h.tape, h.output, h.size, fun k hk hn => h.frame k hk fun i gi hi => by
    rw [hG] at hi
    cases i with
    | zero => simp at hi; subst hi; rw [hb]; exact Ne.symm hn
    | succ i => simp at hi⟩
theorem rel_pv {C : Cf} {p : PV} {v : Value} (h : RelS C (.pv p) v) : RelP C.w C.S p v := by cases h with | pv _ _ h => exact h
theorem want_free (o : Oper) (f : Nat → Option Bool) (h : o.guard = none) : Region.wanted o f = true := by unfold Region.wanted; rw [h]
theorem st81_len : st81.tm.length = 132 := by kernel_rfl
theorem calls81 {w : World} {b0 : Nat} {sl : Value} (hb : w.heap[b0]? = some (.cells #[.int .u32 0, .int .i32 1, .int .u32 0, .nilIface, sl] 109 (0, 0))) (hsl : RelP w (fun b _ => b < w.heap.size ∧ b ≠ b0) (.slice 1 rows12) sl) :
    Calls Tryz.prog 81 #[.pointer (some ⟨b0, 0, none⟩)] w fun e w' => ∃ gr sl', e = .returned (.iface 151 (.pointer (some ⟨gr, 0, none⟩))) ∧ But b0 w w' ∧ w.heap.size ≤ gr ∧ w'.heap[b0]? = some (.cells #[.int .u32 0, .int .i32 1, .int .u32 0, .nilIface, sl'] 109 (0, 0)) ∧ TabIn w' b0 gr := by
  have hlt : b0 < w.heap.size := (Array.getElem?_eq_some_iff.1 hb).1
  obtain ⟨C, hC⟩ : ∃ C : Cf, C = ⟨w, fun b _ => b < w.heap.size ∧ b ≠ b0, H81, [⟨b0, 0, 0, 0⟩]⟩ := ⟨_, rfl⟩
  have I : Inv C := by
    rw [hC]
    refine one_box (fun x o h => h) hb rfl (fun j c u hj hu => ?_) (fun j c hj => ?_)
    · rcases j with _ | _ | _ | _ | _ | j <;> simp at hj hu <;> subst hj <;> subst hu
      · exact .pv _ _ (.int _ _)
      · exact .pv _ _ (.int _ _)
      · exact .pv _ _ (.int _ _)
      · exact .pv _ _ .nilIface
      · exact .pv _ _ hsl
    · rcases j with _ | _ | _ | _ | _ | j <;> simp at hj <;> subst hj <;> rfl
  have IJ : InvJ (W0e w) C := ⟨I, j0e w C⟩
  have hw : w = C.w := by rw [hC]
  have R : StRel C (enter 132 [SV.ptr 0 0] H81) { tmps := #[.pointer (some ⟨b0, 0, none⟩)] ++ Array.replicate (Tryz.f81.ntmps - (#[Value.pointer (some ⟨b0, 0, none⟩)] : Array Value).size) Go.undef, defers := [] } := by
    refine ⟨by rw [hC]; rfl, ?_, rfl⟩
    have h1 : RelL C [SV.ptr 0 0] [.pointer (some ⟨b0, 0, none⟩)] := by
      refine RelL.cons ?_ (RelL.nil C)
      rw [hC]
      exact .ptr 0 0 _ ⟨b0, 0, 0, 0⟩ rfl rfl
    simp only [enter, Array.toList_append, Array.toList_replicate]
    refine h1.append ⟨by simp, fun j c u hj hu => ?_⟩
    have e1 := List.eq_of_mem_replicate (List.mem_of_getElem? hj)
    have e2 := List.eq_of_mem_replicate (List.mem_of_getElem? hu)
    rw [e1, e2]; exact undef_rel C
  rw [hw]
  refine calls_of_wp Tryz.func81 body81 ?_
  refine glue_sound (tok81 (W0e w)) 8 _ (by kernel_rfl) ok81 ⟨400, out81_eq⟩ IJ R ?_
  intro D a I' EV R'
  obtain ⟨u, hu, hr⟩ := R'.tm.get st81_tm
  have hsz : a.tmps.size = 132 := by
    have := R'.tm.1
    rw [st81_len] at this
    simpa using this
  cases hr with | ptr _ _ cs g hH2 hG2 =>
  have hu' : a.tmps[11]? = some (.pointer (some ⟨g.blk, 0, none⟩)) := by simpa using hu
  have hu11 : a.tmps.getD 11 Go.undef = .pointer (some ⟨g.blk, 0, none⟩) := by simp [Array.getD_eq_getD_getElem?, hu']
  -- the end
  unfold suf81 Tryz.f81
  simp only [restN, Option.getD_some]
  refine wp_seq (wp_region_list ?_)
  simp only [wpList]
  rw [if_pos (want_free _ _ rfl)]
  refine .inl (wp_value (v := .iface 151 (.pointer (some ⟨g.blk, 0, none⟩))) (w' := D.w) ?_ ?_)
  · have hk : kindOf Y 151 = some .ptr := rfl
    obtain ⟨y, d, _, _, hu, hf⟩ := env.kind hk
    have hni : ∀ ms, d ≠ .interface ms := by
      intro ms e; subst e; simp [TK.fits] at hf
    have he : a.eval (.tmp 11) = .pointer (some ⟨g.blk, 0, none⟩) := hu11
    simp only [execOp, Instr.makeInterface, Sem.run_bind, run_underlying hu, Result.andThen_ok, he]
    cases d <;> simp <;> exact absurd rfl (hni _)
  rw [if_pos (want_free _ _ rfl)]
  refine .inl (wp_value (v := .iface 151 (.pointer (some ⟨g.blk, 0, none⟩))) (w' := D.w) ?_ ?_)
  · have he : (a.put (some 131) (.iface 151 (.pointer (some ⟨g.blk, 0, none⟩)))).eval (.tmp 131) = .iface 151 (.pointer (some ⟨g.blk, 0, none⟩)) := by
      simp [Act.eval, Act.put, Array.getD_eq_getD_getElem?, hsz]
    simp only [execOp, he]
    rfl
  simp only [Exit.then]
  refine wp_ret ?_
  refine ⟨R'.defers, .iface 151 (.pointer (some ⟨g.blk, 0, none⟩)), ?_, ?_⟩
  · rw [results_tmp rfl]
    simp [Act.put, Array.getD_eq_getD_getElem?, hsz]
  -- the world
  rw [R'.H] at hH2
  have hH2' := hH2
  rw [st81_box] at hH2'
  cases hH2'
  have eH := R'.H
  obtain ⟨I'', -⟩ := I'
  have hH0 : D.H[0]? = some (.box (some 109) (repS 0 1 (.pv .nilIface) (.pv (.slice 1 rows12)))) := by rw [eH]; exact st81_rep
  have hCH0 : C.H[0]? = some (.box (some 109) (repS 0 1 (.pv .nilIface) (.pv (.slice 1 rows12)))) := by rw [hC]; rfl
  have hCG0 : C.G[0]? = some ⟨b0, 0, 0, 0⟩ := by rw [hC]; rfl
  have hG0 : D.G[0]? = some ⟨b0, 0, 0, 0⟩ := (EV.boxk 0 _ _ hCH0 hCG0).2
  have hH2D : D.H[2]? = some (.box (some 150) cellsT) := by rw [eH]; exact st81_box
  have hne : g.blk ≠ b0 := I''.dis 2 0 g ⟨b0, 0, 0, 0⟩ (by decide) (by rw [hH2D]; simp) (by rw [hH0]; simp) hG2 hG0
  have hge : w.heap.size ≤ g.blk := by
    rcases EV.blks 2 g hG2 with h | ⟨k0, g0, h1, h2⟩
    · rw [hw]; exact h
    · rw [hC] at h1
      cases k0 with
      | zero => simp at h1; subst h1; exact absurd h2.symm hne
      | succ k0 => simp at h1
  obtain ⟨arr, ha1, ha2⟩ := I''.boxT 2 150 cellsT g hH2D hG2
  obtain ⟨arr', T', hb1, hb2, hb3, hb4⟩ := I''.box 2 cellsT g hH2D hG2
  rw [ha1] at hb1
  cases hb1
  obtain ⟨ar0, hr1, hr2⟩ := I''.boxT 0 109 _ ⟨b0, 0, 0, 0⟩ hH0 hG0
  obtain ⟨ar0', T0', hs1, hs2, hs3, hs4⟩ := I''.box 0 _ ⟨b0, 0, 0, 0⟩ hH0 hG0
  rw [hr1] at hs1
  cases hs1
  have len5 : ar0.size = 5 := hr2
  have c0 := rel_pv (hs3 0 _ _ rfl (Array.getElem?_eq_getElem (by omega)))
  have c1 := rel_pv (hs3 1 _ _ rfl (Array.getElem?_eq_getElem (by omega)))
  have c2 := rel_pv (hs3 2 _ _ rfl (Array.getElem?_eq_getElem (by omega)))
  have c3 := rel_pv (hs3 3 _ _ rfl (Array.getElem?_eq_getElem (by omega)))
  have ear : ∃ sl', ar0 = #[.int .u32 0, .int .i32 1, .int .u32 0, .nilIface, sl'] := by
    generalize hx0 : ar0[0] = x0 at c0
    generalize hx1 : ar0[1] = x1 at c1
    generalize hx2 : ar0[2] = x2 at c2
    generalize hx3 : ar0[3] = x3 at c3
    cases c0; cases c1; cases c2; cases c3
    refine ⟨ar0[4], Array.ext (by simpa using len5) fun i h1 h2 => ?_⟩
    have hi : i < 5 := by omega
    match i, hi with
    | 0, _ => exact hx0
    | 1, _ => exact hx1
    | 2, _ => exact hx2
    | 3, _ => exact hx3
    | 4, _ => rfl
  obtain ⟨sl', ear⟩ := ear
  refine ⟨g.blk, sl', rfl, evo_but (by rw [hC]) rfl EV, by rw [← hw]; exact hge, by rw [← ear]; exact hr1, arr, ha1, ?_, hne, ?_⟩
  · rw [ha2]; exact (by unfold cellsT; rw [List.length_append, List.length_map, List.length_range]; rfl : cellsT.length = 257)
  · intro j p u hj hu
    have tr : ∀ {p : PV} {u : Value}, RelP D.w D.S p u → RelP D.w (fun b _ => b < D.w.heap.size ∧ b ≠ g.blk ∧ b ≠ b0) p u := fun h => h.mono (fun b o hs => ⟨I''.inb b o hs, fun e => I''.boxS 2 cellsT g o hH2D hG2 (e ▸ hs), fun e => I''.boxS 0 _ ⟨b0, 0, 0, 0⟩ o hH0 hG0 (e ▸ hs)⟩) (fun _ _ _ => rfl)
    by_cases hj2 : j < 256
    · have h1 := cellsR_at hj2
      rw [h1] at hj
      cases hj
      have h2 : cellsT[j]? = some (rpS j) := by
        unfold cellsT
        rw [List.getElem?_append_left (by rw [List.length_map, List.length_range]; exact hj2), List.getElem?_map, List.getElem?_range hj2]; rfl
      exact tr (rel_pv (hb3 j _ u h2 hu))
    · have h3 : j < 257 := by
        have := (List.getElem?_eq_some_iff.1 hj).1
        rw [cellsR_len] at this; exact this
      have : j = 256 := by omega
      subst this
      rw [cellsR_tr] at hj
      cases hj
      have h2 : cellsT[256]? = some (.own 1 6 1 (reps.map fun b => [PV.str [b]])) := by
        unfold cellsT
        rw [List.getElem?_append_right (by rw [List.length_map, List.length_range]; exact Nat.le_refl _)]
        simp
      have := hb3 256 _ u h2 hu
      cases this with | own _ _ _ _ _ _ _ _ _ _ _ hp _ => exact tr hp
end Go.Proofs.YtkckpmcpmngiiaaGreatDoor
/- The replacer, built once, in the model. -/
set_option linter.unusedSimpArgs false
set_option linter.unusedVariables false
set_option maxRecDepth 1000000
set_option maxHeartbeats 3200000
namespace Go.Proofs.YtkckpmcpmngiiaaGreatDoor
open Go Go.Pm Go.RowKit
theorem heap_set {w : World} {b i : Nat} {v : Value} {arr : Array Value} {T : TypeId} {fz : Nat × Nat} (h : w.heap[b]? = some (.cells arr T fz)) : (w.setCell ⟨b, i, none⟩ v).heap[b]? = some (.cells (arr.setIfInBounds i v) T fz) := by
  simp [World.setCell, Array.getElem?_modify, h]
theorem heap_set_ne {w : World} {b i k : Nat} {v : Value} (h : k ≠ b) : (w.setCell ⟨b, i, none⟩ v).heap[k]? = w.heap[k]? := by
  simp [World.setCell, Array.getElem?_modify, Ne.symm h]
theorem But.refl (b : Nat) (w : World) : But b w w := ⟨rfl, rfl, rfl, Nat.le_refl _, fun _ _ _ => rfl⟩
theorem But.set (b i : Nat) (w : World) (v : Value) : But b w (w.setCell ⟨b, i, none⟩ v) := ⟨rfl, rfl, rfl, Nat.le_of_eq (World.size_setCell ..).symm, fun k _ hn => heap_set_ne hn⟩
theorem But.drew (b : Nat) (w : World) : But b w w.drew := ⟨rfl, rfl, rfl, Nat.le_refl _, fun _ _ _ => rfl⟩
theorem TabIn.set {w : World} {b0 gr i : Nat} {v : Value} (h : TabIn w b0 gr) : TabIn (w.setCell ⟨b0, i, none⟩ v) b0 gr := by
  obtain ⟨arr, h1, h2, h3, h4⟩ := h
  refine ⟨arr, by rw [heap_set_ne h3]; exact h1, h2, h3, fun j p u hj hu => (h4 j p u hj hu).mono (fun b o hs => ⟨by rw [World.size_setCell]; exact hs.1, hs.2⟩) (fun b o hs => ?_)⟩
  simp only [World.cell?, heap_set_ne hs.2.2]
theorem TabIn.drew {w : World} {b0 gr : Nat} (h : TabIn w b0 gr) : TabIn w.drew b0 gr := by
  obtain ⟨arr, h1, h2, h3, h4⟩ := h
  exact ⟨arr, h1, h2, h3, fun j p u hj hu => RelP.mono (w := w) (S := fun b _ => b < w.heap.size ∧ b ≠ gr ∧ b ≠ b0) (w' := w.drew) (S' := fun b _ => b < w.drew.heap.size ∧ b ≠ gr ∧ b ≠ b0) (fun b o hs => hs) (fun b o hs => rfl) (h4 j p u hj hu)⟩
theorem cell_of {w : World} {b i : Nat} {arr : Array Value} {T : TypeId} {fz : Nat × Nat} (h : w.heap[b]? = some (.cells arr T fz)) : w.cell? ⟨b, i, none⟩ = arr[i]? := by simp [World.cell?, h]
theorem free_of {w : World} {b i : Nat} {arr : Array Value} {T : TypeId} (h : w.heap[b]? = some (.cells arr T (0, 0))) : w.frozen? ⟨b, i, none⟩ = false := by simp [World.frozen?, h]
theorem once67 {w : World} {b0 : Nat} {sl : Value} (hb : w.heap[b0]? = some (.cells #[.int .u32 0, .int .i32 1, .int .u32 0, .nilIface, sl] 109 (0, 0))) (hsl : RelP w (fun b _ => b < w.heap.size ∧ b ≠ b0) (.slice 1 rows12) sl) :
    Calls Tryz.prog 67 #[.pointer (some ⟨b0, 0, none⟩)] w fun e w' => e = .returned (.tuple #[]) ∧ ∃ gr, But b0 w w' ∧ w.heap.size ≤ gr ∧ w'.heap[b0]? = some (.cells #[.int .u32 0, .int .i32 1, .int .u32 0, .iface 151 (.pointer (some ⟨gr, 0, none⟩)), .slice none 0 0] 109 (0, 0)) ∧ TabIn w' b0 gr := by
  go_enter Tryz.func67, Tryz.ntmps67
  go_wp2_with (go_at_call 81; refine (calls81 hb hsl).mono ?_; rintro e w' ⟨gr, sl', rfl, h1, h2, h3, h4⟩; have q3 := (cell_of (i := 3) h3).trans (show _ = some Value.nilIface from rfl); have q4 := (cell_of (i := 4) h3).trans (show _ = some sl' from rfl); have z3 := free_of (i := 3) h3; have z4 := free_of (i := 4) h3)
  go_end0
  refine ⟨rfl, gr, ?_, h2, ?_, ?_⟩
  · exact (h1.trans (But.set _ _ _ _)).trans (But.set _ _ _ _)
  · have := heap_set (i := 4) (v := .slice none 0 0) (heap_set (i := 3) (v := .iface 151 (.pointer (some ⟨gr, 0, none⟩))) h3)
    simpa using this
  · exact h4.set.set
/-- 'doSlow', not yet done and the lock free. -/
theorem slow80 {w : World} {b0 : Nat} {sl : Value} (hb : w.heap[b0]? = some (.cells #[.int .u32 0, .int .i32 0, .int .u32 0, .nilIface, sl] 109 (0, 0))) (hsl : RelP w (fun b _ => b < w.heap.size ∧ b ≠ b0) (.slice 1 rows12) sl) :
    Calls Tryz.prog 80 #[.pointer (some ⟨b0, 0, none⟩), .func (.func 67) #[.pointer (some ⟨b0, 0, none⟩)] #[]] w fun e w' => e = .returned (.tuple #[]) ∧ ∃ gr, But b0 w w' ∧ w.heap.size ≤ gr ∧ w'.heap[b0]? = some (.cells #[.int .u32 1, .int .i32 0, .int .u32 0, .iface 151 (.pointer (some ⟨gr, 0, none⟩)), .slice none 0 0] 109 (0, 0)) ∧ TabIn w' b0 gr := by
  have h0 : w.cell? ⟨b0, 0, none⟩ = some (.int .u32 0) := (cell_of (i := 0) hb).trans rfl
  have h1 : w.cell? ⟨b0, 1, none⟩ = some (.int .i32 0) := (cell_of (i := 1) hb).trans rfl
  have f0 : w.frozen? ⟨b0, 0, none⟩ = false := free_of (i := 0) hb
  have f1 : w.frozen? ⟨b0, 1, none⟩ = false := free_of (i := 1) hb
  have hb1 : (w.setCell ⟨b0, 1, none⟩ (.int .i32 1)).heap[b0]? = some (.cells #[.int .u32 0, .int .i32 1, .int .u32 0, .nilIface, sl] 109 (0, 0)) := by
    have := heap_set (i := 1) (v := .int .i32 1) hb
    simpa using this
  have hsl1 : RelP (w.setCell ⟨b0, 1, none⟩ (.int .i32 1)) (fun b _ => b < (w.setCell ⟨b0, 1, none⟩ (.int .i32 1)).heap.size ∧ b ≠ b0) (.slice 1 rows12) sl :=
    hsl.mono (fun b o hs => ⟨by rw [World.size_setCell]; exact hs.1, hs.2⟩) (fun b o hs => by simp only [World.cell?, heap_set_ne hs.2])
  have hl := run_call_load (P := Tryz.prog) Tryz.func98 (by kernel_rfl) (by kernel_rfl) (by kernel_rfl) .u32 (by kernel_rfl) (w := w.setCell ⟨b0, 1, none⟩ (.int .i32 1)) (a := ⟨b0, 0, none⟩) (x := 0) ((World.cell?_setCell_other _ ⟨b0, 1, none⟩ ⟨b0, 0, none⟩ _ (by simp)).trans h0)
  have hnot : ∀ (x : Bool) (w : World), (Op.unary .not (.bool x)).run Tryz.prog w = .ok (.bool (!x)) w := fun _ _ => rfl
  have e67 := once67 hb1 hsl1
  go_enter_defers Tryz.func80, Tryz.ntmps80
  go_wp2_with (first | (go_at_call 99; refine (lock_free ⟨b0, 1, none⟩ _ (by go_simp) (by go_simp)).mono ?_; rintro e w' ⟨rfl, rfl⟩) | (go_at_call 67; refine e67.mono ?_; rintro e w' ⟨rfl, gr, k1, k2, k3, k4⟩) | (go_at_call 79; go_in))
  have m1 := heap_set (i := 0) (v := .int .u32 1) (show w'.drew.heap[b0]? = _ from k3)
  refine leaves_cons (f := 101) (args := #[.pointer (some ⟨b0, 0, none⟩), .bool true]) (by simp) (by simp [go_sem]) ?_
  refine (store_deferred ⟨b0, 0, none⟩ (.int .u32 0) .returning _ ((cell_of (i := 0) k3).trans rfl) (free_of (i := 0) k3)).mono ?_
  rintro e u' w'' ⟨rfl, rfl, rfl⟩
  refine leaves_cons (f := 100) (args := #[.pointer (some ⟨b0, 1, none⟩)]) (by simp [settle]) (by simp [go_sem]) ?_
  refine (unlock_deferred ⟨b0, 1, none⟩ _ _ ((cell_of (i := 1) m1).trans rfl) (free_of (i := 1) m1)).mono ?_
  rintro e u' w'' ⟨rfl, rfl, rfl⟩
  have m2 := heap_set (i := 1) (v := .int .i32 0) m1
  have fin : But b0 w ((w'.drew.setCell ⟨b0, 0, none⟩ (.int .u32 1)).setCell ⟨b0, 1, none⟩ (.int .i32 0)) ∧ w.heap.size ≤ gr ∧ ((w'.drew.setCell ⟨b0, 0, none⟩ (.int .u32 1)).setCell ⟨b0, 1, none⟩ (.int .i32 0)).heap[b0]? = some (.cells #[.int .u32 1, .int .i32 0, .int .u32 0, .iface 151 (.pointer (some ⟨gr, 0, none⟩)), .slice none 0 0] 109 (0, 0)) ∧ TabIn ((w'.drew.setCell ⟨b0, 0, none⟩ (.int .u32 1)).setCell ⟨b0, 1, none⟩ (.int .i32 0)) b0 gr :=
    ⟨((((But.set _ _ _ _).trans k1).trans (But.drew _ _)).trans (But.set _ _ _ _)).trans (But.set _ _ _ _), by rw [World.size_setCell] at k2; exact k2, by simpa using m2, k4.drew.set.set⟩
  simp only [Leaves, settle, results, Tryz.results80]
  simp
  exact ⟨fin.1, gr, fin.2⟩
/-- 'Do', not yet done. -/
theorem do66 {w : World} {b0 : Nat} {sl : Value} (hb : w.heap[b0]? = some (.cells #[.int .u32 0, .int .i32 0, .int .u32 0, .nilIface, sl] 109 (0, 0))) (hsl : RelP w (fun b _ => b < w.heap.size ∧ b ≠ b0) (.slice 1 rows12) sl) :
    Calls Tryz.prog 66 #[.pointer (some ⟨b0, 0, none⟩), .func (.func 67) #[.pointer (some ⟨b0, 0, none⟩)] #[]] w fun e w' => e = .returned (.tuple #[]) ∧ ∃ gr, But b0 w w' ∧ w.heap.size ≤ gr ∧ w'.heap[b0]? = some (.cells #[.int .u32 1, .int .i32 0, .int .u32 0, .iface 151 (.pointer (some ⟨gr, 0, none⟩)), .slice none 0 0] 109 (0, 0)) ∧ TabIn w' b0 gr := by
  have h0 : w.cell? ⟨b0, 0, none⟩ = some (.int .u32 0) := (cell_of (i := 0) hb).trans rfl
  have hl := run_call_load (P := Tryz.prog) Tryz.func98 (by kernel_rfl) (by kernel_rfl) (by kernel_rfl) .u32 (by kernel_rfl) h0
  have hnot : ∀ (x : Bool) (w : World), (Op.unary .not (.bool x)).run Tryz.prog w = .ok (.bool (!x)) w := fun _ _ => rfl
  have e80 := slow80 hb hsl
  go_enter Tryz.func66, Tryz.ntmps66
  go_wp2_with (first | (go_at_call 80; refine e80.mono ?_; rintro e w' ⟨rfl, gr, k⟩) | (go_at_call 79; go_in))
  go_end0
  exact ⟨rfl, gr, k⟩
theorem rep163 {w : World} {b0 gr : Nat} (h : TabIn w b0 gr) {s : Bs} (hs : s.length ≤ 100000000) : Calls Tryz.prog 163 #[.pointer (some ⟨gr, 0, none⟩), .string ⟨s.toArray⟩] w fun e w' => e = .returned (.string ⟨(esc s).toArray⟩) ∧ But gr w w' := by
  obtain ⟨arr, h1, h2, h3, h4⟩ := h
  obtain ⟨C, hC⟩ : ∃ C : Cf, C = ⟨w, fun b _ => b < w.heap.size ∧ b ≠ gr ∧ b ≠ b0, [.box (some 150) cellsR], [⟨gr, 0, 0, 0⟩]⟩ := ⟨_, rfl⟩
  have hpv : ∀ (j : Nat) (c : SV), cellsR[j]? = some c → ∃ p, c = .pv p := by
    intro j c hj
    have hm := List.mem_of_getElem? hj
    unfold cellsR at hm
    rcases List.mem_append.1 hm with hm | hm
    · obtain ⟨b, _, rfl⟩ := List.mem_map.1 hm; exact ⟨_, rfl⟩
    · simp at hm; subst hm; exact ⟨_, rfl⟩
  have I : Inv C := by
    rw [hC]
    refine one_box (fun x o h => ⟨h.1, h.2.1⟩) h1 (by rw [h2, cellsR_len]) (fun j c u hj hu => ?_) (fun j c hj => ?_)
    · obtain ⟨p, rfl⟩ := hpv j c hj
      exact .pv _ _ (h4 j p u hj hu)
    · obtain ⟨p, rfl⟩ := hpv j c hj; rfl
  have hr : RelL C [SV.ptr 0 0, .str s] [.pointer (some ⟨gr, 0, none⟩), .string ⟨s.toArray⟩] := by
    refine RelL.cons ?_ (RelL.cons (rel_strN C s) (RelL.nil C))
    rw [hC]
    exact .ptr 0 0 _ ⟨gr, 0, 0, 0⟩ rfl rfl
  obtain ⟨H', hF⟩ := all163 (k := 0) (H := C.H) (by rw [hC]; rfl) hs
  have hw : w = C.w := by rw [hC]
  rw [hw]
  refine ((meets163 (W0e w)).2 C _ _ _ _ hF I (j0e w C) hr).mono ?_
  rintro e w' ⟨v, D, rfl, rfl, hg⟩
  have hv := hg.rel
  cases str_of hv
  exact ⟨rfl, evo_but (by rw [hC]) rfl hg.evo⟩
/-- Replace, by a replacer that is new. -/
theorem rep43 {w : World} {b0 : Nat} {sl : Value} {s : Bs} (hs : s.length ≤ 100000000) (hb : w.heap[b0]? = some (.cells #[.int .u32 0, .int .i32 0, .int .u32 0, .nilIface, sl] 109 (0, 0))) (hsl : RelP w (fun b _ => b < w.heap.size ∧ b ≠ b0) (.slice 1 rows12) sl) :
    Calls Tryz.prog 43 #[.pointer (some ⟨b0, 0, none⟩), .string ⟨s.toArray⟩] w fun e w' => e = .returned (.string ⟨(esc s).toArray⟩) ∧ But b0 w w' ∧ ∃ gr, w'.heap[b0]? = some (.cells #[.int .u32 1, .int .i32 0, .int .u32 0, .iface 151 (.pointer (some ⟨gr, 0, none⟩)), .slice none 0 0] 109 (0, 0)) := by
  have hmf : ∀ (fn : Fn) (first cap : Array Value) (w : World), (Instr.makeFunc fn first cap).run Tryz.prog w = .ok (.func fn first cap) w := fun _ _ _ _ => rfl
  have e66 := do66 hb hsl
  have hm : ∀ (b : Nat) (w : World), (method 318 151 (.pointer (some ⟨b, 0, none⟩)) "Replace").run Tryz.prog w = .ok (163, .pointer (some ⟨b, 0, none⟩)) w := fun _ _ => by kernel_rfl
  have hb0 : b0 < w.heap.size := (Array.getElem?_eq_some_iff.1 hb).1
  go_enter Tryz.func43, Tryz.ntmps43
  go_wp2_with (first | (go_at_call 66; refine e66.mono ?_; rintro e w' ⟨rfl, gr, k1, k2, k3, k4⟩; have q3 := (cell_of (i := 3) k3).trans (show _ = some (Value.iface 151 (.pointer (some ⟨gr, 0, none⟩))) from rfl); have e163 := rep163 k4 hs) | (go_at_call 163; refine e163.mono ?_; rintro e w2 ⟨rfl, k5⟩))
  go_ret
  have hgr : gr ≠ b0 := by omega
  refine ⟨rfl, ⟨k5.os.trans k1.os, k5.tape.trans k1.tape, k5.output.trans k1.output, Nat.le_trans k1.size k5.size, fun k hk hn => ?_⟩, gr, ?_⟩
  · rw [k5.block k (by have := k1.size; omega) (by omega)]; exact k1.block k hk hn
  · rw [k5.block b0 (by have := k1.size; omega) (by omega)]; exact k3
end Go.Proofs.YtkckpmcpmngiiaaGreatDoor
/- Escape: its contract. -/
set_option linter.unusedSimpArgs false
set_option linter.unusedVariables false
set_option maxRecDepth 1000000
set_option maxHeartbeats 1000000
namespace Go.Proofs.YtkckpmcpmngiiaaGreatDoor
open Go Go.Pm Go.RowKit
def repDone : List SV := repS 1 0 (.pv .opq) (.pv .nilSlice)
open Classical in
noncomputable def F43 (args : List SV) (H : List Blk) : Option (SV × List Blk) := match args with
  | [.ptr k 0, .pv (.str s)] => if ∃ o, H[k]? = some (.box (some 109) (repS 0 0 (.pv .nilIface) o)) ∧ pcell o = some (.slice 1 rows12) ∧ s.length ≤ 100000000 then some (.str (esc s), H.set k (.box (some 109) repDone)) else none
  | _ => none
theorem F43_ok {k : Nat} {H : List Blk} {o : SV} {s : Bs} (hk : H[k]? = some (.box (some 109) (repS 0 0 (.pv .nilIface) o))) (ho : pcell o = some (.slice 1 rows12)) (hs : s.length ≤ 100000000) : F43 [.ptr k 0, .str s] H = some (.str (esc s), H.set k (.box (some 109) repDone)) := by
  unfold F43
  exact if_pos ⟨o, hk, ho, hs⟩
theorem meets43 (W0 : World) : Enterable Tryz.prog 43 ∧ Meets Tryz.prog W0 43 (specFn (.heap F43)) := by
  refine ⟨enterable_of Tryz.func43 (by kernel_rfl), fun C args vs r H' hF I J hr => ?_⟩
  simp only [specFn] at hF
  unfold F43 at hF
  split at hF
  · rename_i k s
    split at hF
    · rename_i hc
      obtain ⟨o, hk, ho, hs⟩ := hc
      cases hF
      obtain ⟨u, v, rfl, h1, h2⟩ := rel2 hr
      cases str_of h2
      cases h1 with | ptr _ _ cs0 g hH hG =>
      obtain ⟨arr, a1, a2⟩ := I.boxT k 109 _ g hk hG
      obtain ⟨arr', T', b1, b2, b3, b4⟩ := I.box k _ g hk hG
      rw [a1] at b1
      cases b1
      have len5 : arr.size = 5 := a2
      have c0 := rel_pv (b3 0 _ _ rfl (Array.getElem?_eq_getElem (by omega)))
      have c1 := rel_pv (b3 1 _ _ rfl (Array.getElem?_eq_getElem (by omega)))
      have c2 := rel_pv (b3 2 _ _ rfl (Array.getElem?_eq_getElem (by omega)))
      have c3 := rel_pv (b3 3 _ _ rfl (Array.getElem?_eq_getElem (by omega)))
      have c4 := pcell_rel ho (b3 4 _ _ rfl (Array.getElem?_eq_getElem (by omega)))
      have hblk : g.blk < C.w.heap.size := (Array.getElem?_eq_some_iff.1 a1).1
      obtain ⟨sl, ear, hsl⟩ : ∃ sl, arr = #[.int .u32 0, .int .i32 0, .int .u32 0, .nilIface, sl] ∧ RelP C.w C.S (.slice 1 rows12) sl := by
        generalize hx0 : arr[0] = x0 at c0
        generalize hx1 : arr[1] = x1 at c1
        generalize hx2 : arr[2] = x2 at c2
        generalize hx3 : arr[3] = x3 at c3
        cases c0; cases c1; cases c2; cases c3
        refine ⟨arr[4], Array.ext (by simpa using len5) fun i h1 h2 => ?_, c4⟩
        have hi : i < 5 := by omega
        match i, hi with
        | 0, _ => exact hx0
        | 1, _ => exact hx1
        | 2, _ => exact hx2
        | 3, _ => exact hx3
        | 4, _ => rfl
      rw [ear] at a1
      have hsl' : RelP C.w (fun b _ => b < C.w.heap.size ∧ b ≠ g.blk) (.slice 1 rows12) sl := hsl.mono (fun b o hs => ⟨I.inb b o hs, fun e => I.boxS k _ g o hk hG (e ▸ hs)⟩) (fun _ _ _ => rfl)
      refine (rep43 (s := s) hs a1 hsl').mono ?_
      rintro e w' ⟨rfl, hb, gr, hfin⟩
      have klt : k < C.H.length := (List.getElem?_eq_some_iff.1 hk).1
      have old : ∀ {i : Nat} {b : Blk}, i ≠ k → (C.H.set k (.box (some 109) repDone))[i]? = some b → C.H[i]? = some b := fun hi h => by rw [List.getElem?_set_ne (Ne.symm hi)] at h; exact h
      have atk : (C.H.set k (.box (some 109) repDone))[k]? = some (.box (some 109) repDone) := List.getElem?_set_self klt
      have EV : Evo C ⟨w', C.S, C.H.set k (.box (some 109) repDone), C.G⟩ := by
        refine ⟨hb.os, hb.tape, hb.output, hb.size, fun _ _ h => h, fun b o hs => ?_, fun b h1 h2 => hb.block b h1 (fun e => h2 k g hG e.symm), fun i gi hi => .inr ⟨i, gi, hi, rfl⟩, fun _ _ h => .inl h, ?_, ?_⟩
        · have h1 := I.inb b o hs
          have h2 : b ≠ g.blk := fun e => I.boxS k _ g o hk hG (e ▸ hs)
          simp only [World.cell?, hb.block b h1 h2]
        · intro t i cs gi e1 e2
          by_cases hi : i = k
          · subst hi
            rw [hk] at e1; cases e1
            exact ⟨⟨_, atk, rfl⟩, e2⟩
          · exact ⟨⟨cs, by simp only []; rw [List.getElem?_set_ne (Ne.symm hi)]; exact e1, rfl⟩, e2⟩
        · intro i v e gi e1 e2
          have hi : i ≠ k := by intro h; subst h; rw [hk] at e1; cases e1
          exact ⟨v, gi, by simp only []; rw [List.getElem?_set_ne (Ne.symm hi)]; exact e1, Nat.le_refl _, e2, fun _ => rfl⟩
      have hole : ∀ {i : Nat}, (C.H.set k (.box (some 109) repDone))[i]? ≠ some .hole → C.H[i]? ≠ some .hole := fun {i} h e => by
        by_cases hi : i = k
        · subst hi; rw [hk] at e; cases e
        · exact h (by rw [List.getElem?_set_ne (Ne.symm hi)]; exact e)
      have other : ∀ {i : Nat} {gi : GB}, i ≠ k → C.H[i]? ≠ some .hole → C.G[i]? = some gi → gi.blk < C.w.heap.size → w'.heap[gi.blk]? = C.w.heap[gi.blk]? := fun {i gi} hi hh hgi hlt => hb.block _ hlt (I.dis i k gi g hi hh (by rw [hk]; simp) hgi hG)
      refine ⟨_, ⟨w', C.S, C.H.set k (.box (some 109) repDone), C.G⟩, rfl, rfl, rfl, ⟨by simp [I.len], fun b o hs => Nat.lt_of_lt_of_le (I.inb b o hs) hb.size, ?_, ?_, ?_, ?_, ?_, ?_⟩, EV, rel_strN _ _⟩
      · intro t i cs gi e1 e2
        by_cases hi : i = k
        · subst hi
          simp only [] at e1 e2
          rw [atk] at e1
          cases e1
          rw [hG] at e2
          cases e2
          refine ⟨_, 109, hfin, Nat.le_refl _, fun j c u hj hu => ?_, fun j c hj => ?_⟩
          · rcases j with _ | _ | _ | _ | _ | j <;> simp [repDone] at hj hu <;> subst hj <;> subst hu
            · exact .pv _ _ (.int _ _)
            · exact .pv _ _ (.int _ _)
            · exact .pv _ _ (.int _ _)
            · exact .pv _ _ (.opq _ _)
            · exact .pv _ _ .nilSlice
          · rcases j with _ | _ | _ | _ | _ | j <;> simp [repDone] at hj <;> subst hj <;> rfl
        · have e1' := old hi e1
          obtain ⟨ar, t0, q1, q2, q3, q4⟩ := I.box i cs gi e1' e2
          exact ⟨ar, t0, (other hi (by rw [e1']; simp) e2 (Array.getElem?_eq_some_iff.1 q1).1).trans q1, q2, fun j c u h3 h4 => EV.rel (q3 j c u h3 h4), q4⟩
      · intro t i cs gi o' e1 e2 hs'
        by_cases hi : i = k
        · subst hi
          simp only [] at e2
          exact I.boxS i _ gi o' hk e2 hs'
        · exact I.boxS i cs gi o' (old hi e1) e2 hs'
      · intro i v e gi e1 e2
        have hi : i ≠ k := by intro h; subst h; simp only [] at e1; rw [atk] at e1; cases e1
        have e1' := old hi e1
        obtain ⟨ar, ⟨fz, q1, q0⟩, q2, q3, q4⟩ := I.tok i v e gi e1' e2
        exact ⟨ar, ⟨fz, (other hi (by rw [e1']; simp) e2 (Array.getElem?_eq_some_iff.1 q1).1).trans q1, q0⟩, q2, q3, q4⟩
      · intro i v e gi o' e1 e2 ho' hs'
        have hi : i ≠ k := by intro h; subst h; simp only [] at e1; rw [atk] at e1; cases e1
        exact I.tokS i v e gi o' (old hi e1) e2 ho' hs'
      · intro i t cs gi e1 e2
        by_cases hi : i = k
        · subst hi
          simp only [] at e1 e2
          rw [atk] at e1
          cases e1
          rw [hG] at e2
          cases e2
          exact ⟨_, hfin, rfl⟩
        · have e1' := old hi e1
          obtain ⟨ar, q1, q2⟩ := I.boxT i t cs gi e1' e2
          exact ⟨ar, (other hi (by rw [e1']; simp) e2 (Array.getElem?_eq_some_iff.1 q1).1).trans q1, q2⟩
      · intro i i' gi gi' hne h1 h2 e1 e2
        exact I.dis i i' gi gi' hne (hole h1) (hole h2) e1 e2
    · cases hF
  · cases hF
theorem x42 {H : List Blk} {es : List (List PV)} (he : es = rows12) : XFn Y T0 Tryz.f42 [.tight 1 es] H (fun x => x = (.ptr (H.length + 1) 0, H ++ [.tok 0 9, .box (some 109) (repS 0 0 (.pv .nilIface) (.own H.length 0 1 es))])) := by
  unfold XFn Tryz.f42
  rw [enter_1 _ (by decide)]
  have hl : es.length = 12 := by rw [he]; rfl
  have hne : es ≠ [] := by intro h; rw [h] at hl; cases hl
  simp [hl, hne]
noncomputable def A42 : List SV → List Blk → Option (SV × List Blk) := arunAll Y T0 Tryz.f42
theorem meets42 (W0 : World) : Enterable Tryz.prog 42 ∧ Meets Tryz.prog W0 42 (specFn (.heap A42)) := meets_heap env tok_nil mixed Tryz.func42 (by kernel_rfl) (by kernel_rfl)
theorem all42 {H : List Blk} {es : List (List PV)} (he : es = rows12) : A42 [.tight 1 es] H = some (.ptr (H.length + 1) 0, H ++ [.tok 0 9, .box (some 109) (repS 0 0 (.pv .nilIface) (.own H.length 0 1 es))]) := by
  obtain ⟨r, H', h1, h2⟩ := all_of_XFn (by rfl) (x42 he)
  cases h2; exact h1
noncomputable def T18 : FuncId → Option Pm.Spec := tab [(42, .heap A42), (43, .heap F43)]
theorem T18_eq (g : Nat) : T18 g = tab [(42, .heap A42), (43, .heap F43)] g := rfl
theorem x18 {s : Bs} (hs : s.length ≤ 100000000) : XFn Y T18 Tryz.f18 [.str s] [] (Is (.str (esc s))) := by
  unfold XFn Tryz.f18
  rw [enter_1 _ (by decide)]
  have f1 := all42 (H := []) (es := rows12) rfl
  have f2 := F43_ok (k := 1) (H := [.tok 0 9, .box (some 109) (repS 0 0 (.pv .nilIface) (.own 0 0 1 rows12))]) (s := s) rfl rfl hs
  simp only [List.length_nil, List.nil_append, Nat.zero_add, rows12, pairs, List.map_cons, List.map_nil] at f1 f2
  simp [T18_eq, f1, f2]
theorem meets18 (W0 : World) : OkAt W0 18 F19 := meets_fn env (tok_cons (meets42 W0) (tok_cons (meets43 W0) tok_nil)) mixed Tryz.func18 (by kernel_rfl) (by kernel_rfl) fun args r h => by
  unfold F19 at h
  split at h
  · split at h
    · rename_i hc; cases h; exact x18 hc
    · cases h
  · cases h
end Go.Proofs.YtkckpmcpmngiiaaGreatDoor
