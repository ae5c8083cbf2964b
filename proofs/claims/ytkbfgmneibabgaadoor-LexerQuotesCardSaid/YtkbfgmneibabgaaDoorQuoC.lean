/- The law of Quote, by the machine. -/
import Derived.Test.YtkbfgmneibabgaaDoorQuoB
set_option linter.unusedSimpArgs false
set_option linter.unusedVariables false
set_option maxRecDepth 1000000
set_option maxHeartbeats 1000000
namespace Go.Proofs.YtkbfgmneibabgaaDoor
open Go Go.Pm Go.RowKit
open LexP hiding place Sep Run
def fillL (s : Bs) (n : Nat) : Bs := (List.range n).map fun j => s.getD (j % s.length) 0
def fillC (s : Bs) (n i : Nat) : List SV := (fillL s i).map (fun c => SV.pv (.int .u8 c.toNat)) ++ List.replicate (n - i) (.pv (.int .u8 0))
theorem fillL_len (s : Bs) (n : Nat) : (fillL s n).length = n := by simp [fillL]
theorem fillC_len (s : Bs) {n i : Nat} (h : i ≤ n) : (fillC s n i).length = n := by simp [fillC, fillL_len]; omega
theorem fillC_set (s : Bs) {n i : Nat} (h : i < n) : (fillC s n i).set i (.pv (.int .u8 ((s.getD (i % s.length) 0).toNat : Int))) = fillC s n (i + 1) := by
  unfold fillC
  rw [List.set_append_right _ _ (by simp [fillL_len])]
  simp only [List.length_map, fillL_len, Nat.sub_self]
  obtain ⟨m, hm⟩ : ∃ m, n - i = m + 1 := ⟨n - i - 1, by omega⟩
  rw [hm, show n - (i + 1) = m by omega, List.replicate_succ, List.set_cons_zero]
  have : fillL s (i + 1) = fillL s i ++ [s.getD (i % s.length) 0] := by simp [fillL, List.range_succ]
  rw [this, List.map_append, List.append_assoc]
  rfl
theorem pcells_bytes : ∀ l : Bs, pcells (l.map fun c => SV.pv (.int .u8 (c.toNat : Int))) = some (l.map fun c => PV.int .u8 (c.toNat : Int))
  | [] => rfl
  | c :: l => by simp [pcells, pcell, pcells_bytes l]
theorem chunks_bytes : ∀ l : Bs, chunks 1 l.length (l.map fun c => PV.int .u8 (c.toNat : Int)) = bRow l
  | [] => rfl
  | c :: l => by
    show (chunks 1 (l.length + 1) (PV.int .u8 (c.toNat : Int) :: l.map fun c => PV.int .u8 (c.toNat : Int))) = [PV.int .u8 (c.toNat : Int)] :: bRow l
    simp [chunks, chunks_bytes l]
noncomputable def T7 : FuncId → Option Pm.Spec := tab [(3, .read fun _ => none), (14, .pure true F14), (16, .pure false F16), (20, .pure false F20), (21, .pure false F21)]
theorem T7_eq (g : Nat) : T7 g = tab [(3, .read fun _ => none), (14, .pure true F14), (16, .pure false F16), (20, .pure false F20), (21, .pure false F21)] g := rfl
theorem mark_ok (W0 : World) : Enterable Tryd.prog 3 ∧ Meets Tryd.prog W0 3 (specFn (.read fun _ => none)) := ⟨enterable_of Tryd.func3 (by kernel_rfl), fun C args vs r H' h => by simp only [specFn] at h; split at h <;> cases h⟩
theorem tok7 (W0 : World) : TOk Tryd.prog W0 T7 := tok_cons (mark_ok W0) (tok_cons (meets14 W0) (tok_cons (meets16 W0) (tok_cons (meets20 W0) (tok_cons (meets21 W0) tok_nil))))
theorem loop7 {F : List Fr} {P : SV × List Blk → Prop} {s : Bs} {n : Nat} (hs : 0 < s.length) (hs2 : s.length ≤ 300) (hn : n ≤ 10000) : ∀ (m i : Nat), n = i + m →
    X Y T7 [.tmp 4] F (.exit 0) ⟨mk 112 .J [(5, .bsl 0 0 n 1)], [.box none (fillC s n n)]⟩ P →
    X Y T7 [.tmp 4] F (.loop (loopN Tryd.f7 0)) ⟨mk 112 .J [(0, .str s), (5, .bsl 0 0 n 1), (6, .i i)], [.box none (fillC s n i)]⟩ P
  | 0, i, hm, hx => by
    have hi : i = n := by omega
    subst hi
    apply X_loop_of
    · simp only [loopN, Tryd.f7, loopsOf, List.nil_append, List.append_nil, List.cons_append, List.getD_cons_succ, List.getD_cons_zero]; rfl
    simp
    refine X_keep hx ?_
    simp
  | m + 1, i, hm, hx => by
    have h1 : (i : Int) < (n : Int) := by omega
    have h1n : i < n := by omega
    have h2 : ¬ (s.length : Int) = 0 := by omega
    have h2n : ¬ s.length = 0 := by omega
    have hne : ¬ s = [] := by intro e; rw [e] at hs; simp at hs
    have ih := loop7 (F := F) (P := P) hs hs2 hn m (i + 1) (by omega) hx
    have hq : i % s.length < s.length := Nat.mod_lt _ hs
    have hc : s[i % s.length]? = some (s.getD (i % s.length) 0) := by simp [hq]
    have t1 : ((i : Int).tmod (s.length : Int)) = ((i % s.length : Nat) : Int) := by rw [Int.tmod_eq_emod_of_nonneg (by omega)]; rfl
    have t2 : ((i : Int) % (s.length : Int)) = ((i % s.length : Nat) : Int) := rfl
    have t3 : ((i % s.length : Nat) : Int).toNat = i % s.length := by omega
    have t4 : (0 : Int) ≤ ((i % s.length : Nat) : Int) := by omega
    have hi1 : i + 1 ≤ n := by omega
    have w1 : IntKind.i64.wrap ((i : Int) + 1) = ((i + 1 : Nat) : Int) := by rw [wrap64 (by omega) (by omega)]; omega
    have hset := fillC_set s h1n
    have hlen := fillC_len s (n := n) (i := i) (by omega)
    have hlt : i < (fillC s n i).length := by omega
    generalize ((i + 1 : Nat) : Int) = E at *
    generalize fillC s n i = cs at *
    generalize s.getD (i % s.length) 0 = c at *
    generalize ((i % s.length : Nat) : Int) = Q at *
    apply X_loop_of
    · simp only [loopN, Tryd.f7, loopsOf, List.nil_append, List.append_nil, List.cons_append, List.getD_cons_succ, List.getD_cons_zero]; rfl
    simp [-getElem?_pos, List.getElem?_cons_zero, List.getElem?_cons_succ, h1, h1n, h2, h2n, hne, t1, t2, t3, t4, hi1, hc, hset, hlen, hlt, w1]
    refine X_keep ih ?_
    simp
theorem scan_quo (s : Bs) (h : s.length ≤ 4096) : ∃ t1 t2, scan (quoL s) = .ok [t1, t2] ∧ t1.core = (3, quoL s, 0, s, false) := by
  obtain ⟨m', h1, h2⟩ := scan_of_sc (sc_quo s h) ((quoL s).length + 1) [] 0 rfl (by omega)
  have hl : m'.length = 2 := by simpa using congrArg List.length h2
  obtain ⟨t1, t2, rfl⟩ : ∃ t1 t2, m' = [t1, t2] := by
    cases m' with
    | nil => simp at hl
    | cons a m' =>
      cases m' with
      | nil => simp at hl
      | cons b m' =>
        have : m' = [] := List.length_eq_zero_iff.1 (by simpa using hl)
        subst this; exact ⟨a, b, rfl⟩
  simp at h2
  exact ⟨t1, t2, by simpa [scan] using h1, h2.1⟩
theorem quoL_len (s : Bs) : (quoL s).length ≤ 4 * s.length + 2 := by
  have := (quoB_len s).2
  simp [quoL]; omega
theorem fill_conv {s : Bs} {n : Nat} : pcells ((fillC s n n).take n) = some ((fillL s n).map fun c => PV.int .u8 (c.toNat : Int)) ∧ bytesOf (chunks 1 n ((fillL s n).map fun c => PV.int .u8 (c.toNat : Int))) = some (fillL s n) := by
  have h1 : fillC s n n = (fillL s n).map fun c => SV.pv (.int .u8 (c.toNat : Int)) := by simp [fillC]
  have h2 : (fillC s n n).take n = fillC s n n := List.take_of_length_le (by rw [fillC_len s (Nat.le_refl n)]; exact Nat.le_refl n)
  have h3 := chunks_bytes (fillL s n)
  rw [fillL_len] at h3
  exact ⟨by rw [h2, h1]; exact pcells_bytes _, by rw [h3]; exact bytesOf_row _⟩
theorem x7 (s0 : Bs) (more : Int) (hm : (Lit.int .u16 more).wf = true) : XFn Y T7 Tryd.f7 [.str s0, .int .u16 more] [] (Is (.bool true)) := by
  have aS := min_at s0 300
  have ts := take_min s0 300
  have hs : (s0.take 300).length ≤ 300 := by rw [List.length_take]; omega
  have es : ((min s0.length 300 : Nat) : Int).toNat = min s0.length 300 := by omega
  have es0 : (0 : Int) ≤ ((min s0.length 300 : Nat) : Int) := by omega
  have es1 : min s0.length 300 ≤ s0.length := by omega
  have aS : aMinMax false [.pv (.int .i64 (s0.length : Int)), .pv (.int .i64 300)] = some (.i ((min s0.length 300 : Nat) : Int)) := aS
  generalize ((min s0.length 300 : Nat) : Int) = Es at *
  generalize min s0.length 300 = ns at *
  generalize s0.take 300 = s at *
  -- what comes behind, at any text
  have fin : ∀ t : Bs, t.length ≤ 10000 → (4096 < t.length → F20 [.str t] = some (.tuple [.str [], .i 5])) ∧ (¬ 4096 < t.length → F20 [.str t] = some (.tuple [.str (quoL t), .i 0]) ∧ F21 [.str t] = some (.str (quoL t)) ∧
      ∃ t1 t2, F14 [.str (quoL t)] = some (.tuple [.fresh 42 7 (tkRow (quoL t) [t1, t2]), .i 0, .i 0, .i 0]) ∧ t1.core = (3, quoL t, 0, t, false)) := fun t ht => by
    refine ⟨fun h => by simp only [F20]; rw [if_pos (by omega), if_pos h], fun h => ⟨by simp only [F20]; rw [if_pos (by omega), if_neg h], by simp only [F21]; rw [if_pos (by omega)], ?_⟩⟩
    obtain ⟨t1, t2, h1, h2⟩ := scan_quo t (by omega)
    have hq := quoL_len t
    refine ⟨t1, t2, ?_, h2⟩
    rw [F14_at (by omega)]
    unfold scanR
    rw [h1]
  have hm : 0 ≤ more ∧ more ≤ 65535 := by simpa [Lit.wf, IntKind.min, IntKind.max, IntKind.signed, IntKind.bits] using hm
  unfold XFn Tryd.f7
  rw [enter_2 _ (by decide)]
  by_cases hA : more.tmod 16 = 1 ∧ 0 < s.length
  · obtain ⟨hA1, hA2⟩ := hA
    have hA3 : (0 : Int) < (s.length : Int) := by omega
    have hne : ¬ s = [] := by intro e; rw [e] at hA2; simp at hA2
    obtain ⟨n, hn⟩ : ∃ n : Nat, (n : Int) = 4090 + (more / 16) % 12 := ⟨(4090 + (more / 16) % 12).toNat, by omega⟩
    have m0 : IntKind.i64.wrap more = more := wrap64 (by omega) (by omega)
    have m1 : IntKind.i64.wrap (more.tdiv 16) = more / 16 := by rw [Int.tdiv_eq_ediv_of_nonneg (by omega), wrap64 (by omega) (by omega)]
    have m2 : (more / 16).tmod 12 = (more / 16) % 12 := Int.tmod_eq_emod_of_nonneg (by omega)
    have m3 : IntKind.i64.wrap (4090 + (more / 16) % 12) = (n : Int) := by rw [← hn]; exact wrap64 (by omega) (by omega)
    have n1 : 4090 ≤ n := by omega
    have n2 : n ≤ 4101 := by omega
    have n3 : (n : Int) ≤ 281474976710656 := by omega
    have n4 : (n : Int) ≤ 70368744177664 := by omega
    have n5 : n ≤ 281474976710656 := by omega
    have n6 : n ≤ 70368744177664 := by omega
    have h0 : List.replicate n (SV.pv (.int .u8 0)) = fillC s n 0 := by simp [fillC, fillL]
    have h0' : (List.replicate n [SV.pv (.int .u8 0)]).flatten = fillC s n 0 := by rw [← h0]; simp
    obtain ⟨c1, c2⟩ := fill_conv (s := s) (n := n)
    have c3 := fillC_len s (Nat.le_refl n)
    have hfl := fillL_len s n
    have hF := fin (fillL s n) (by omega)
    generalize (more / 16) % 12 = q2 at *
    generalize more / 16 = q1 at *
    simp [-aMinMax, aS, es, es0, es1, ts, hA1, hA2, hA3, hne, m0, m1, m2, m3, n3, n4, n5, n6, h0, h0']
    refine X_keep (loop7 hA2 hs (by omega) n 0 (by omega) ?_) (by simp)
    have hb : bslOk T7 = true := rfl
    have c4 : ((fillC s n n).drop 0).take n = (fillC s n n).take n := rfl
    generalize fillC s n n = cs at *
    generalize fillL s n = t at *
    by_cases h4 : 4096 < t.length
    · have h4' : (4096 : Int) < (t.length : Int) := by omega
      have f20 := hF.1 h4
      simp [hb, c1, c2, c3, T7_eq, F16_at, f20, h4, h4', Is_mk, outR, outP]
    · have h4' : ¬ (4096 : Int) < (t.length : Int) := by omega
      obtain ⟨f20, f21, t1, t2, f14, hc⟩ := hF.2 h4
      simp only [Tk.core, Prod.mk.injEq] at hc
      obtain ⟨k1, k2, k3, k4, k5⟩ := hc
      simp [-Int.not_lt, -Nat.not_lt, hb, c1, c2, c3, T7_eq, F16_at, f20, f21, f14, h4, h4', tkRow, tkC, k1, k2, k4, Is_mk, outR, outP]
  · have hF := fin s (by omega)
    have h4 : ¬ 4096 < s.length := by omega
    have h4' : ¬ (4096 : Int) < (s.length : Int) := by omega
    obtain ⟨f20, f21, t1, t2, f14, hc⟩ := hF.2 h4
    simp only [Tk.core, Prod.mk.injEq] at hc
    obtain ⟨k1, k2, k3, k4, k5⟩ := hc
    by_cases hA1 : more.tmod 16 = 1
    · have hs0 : s = [] := by
        have : ¬ 0 < s.length := fun h => hA ⟨hA1, h⟩
        exact List.length_eq_zero_iff.1 (by omega)
      subst hs0
      simp [-aMinMax, aS, es, es0, es1, ts, hA1, T7_eq, F16_at, f20, f21, f14, tkRow, tkC, k1, k2, k4, Is_mk, outR, outP]
    · simp [-aMinMax, -Int.not_lt, -Nat.not_lt, aS, es, es0, es1, ts, hA1, T7_eq, F16_at, f20, f21, f14, h4, h4', tkRow, tkC, k1, k2, k4, Is_mk, outR, outP]
end Go.Proofs.YtkbfgmneibabgaaDoor
