/- Texts and names of note values: the library's part by contracts, the rest by the machine. -/
import Derived.Test.YtngapiffgoignaaDoorDurE
import Derived.Test.YtngapiffgoignaaDoorShelf
import Derived.Lib.AppendIntMem
set_option linter.unusedSimpArgs false
set_option linter.unusedVariables false
set_option maxRecDepth 1000000
set_option maxHeartbeats 400000
namespace Go.Proofs.YtngapiffgoignaaDoor
open Go Go.Pm Go.RowKit
noncomputable abbrev tabName : String := ((Rows.durationTextsRow.laid.map (·.1)).getD 2 Tryd.f0.name)
/-- What the library's variables hold. -/
structure Laid (W : World) : Prop where
  tab : Lib.TabIs Tryd.prog W tabName .u64 Lib.pow10Tab
theorem rel_str' (C : Cf) (l : List UInt8) : RelS C (.str l) (.string ⟨l.toArray⟩) := .pv _ _ (.str l)
theorem tab_at {W0 : World} {C : Cf} (J : J0 W0 C) (h : Lib.TabIs Tryd.prog W0 tabName .u64 Lib.pow10Tab) : Lib.TabIs Tryd.prog C.w tabName .u64 Lib.pow10Tab := by
  have h' := h
  unfold Lib.TabIs World.var? at h' ⊢
  cases hg : Tryd.prog.globalNamed tabName with
  | none => rw [hg] at h'; simp at h'
  | some g =>
    rw [hg] at h'
    simp only [Option.bind_some] at h' ⊢
    have hlt : g < W0.heap.size := by
      rcases Nat.lt_or_ge g W0.heap.size with h1 | h1
      · exact h1
      · rw [Array.getElem?_eq_none h1] at h'; simp at h'
    rw [J.heap g hlt]; exact h'
/-- The powers of two in decimal. -/
def pw : List (Int × List UInt8) := [(1, [49]), (2, [50]), (4, [52]), (8, [56]), (16, [49, 54]), (32, [51, 50]), (64, [54, 52]), (128, [49, 50, 56]), (256, [50, 53, 54])]
theorem pw_itoa : ∀ x ∈ pw, Lib.itoa x.1 = x.2 := by decide +kernel
def F41 : List SV → Option SV
  | [.pv (.int .i64 n)] => (pw.find? fun x => x.1 == n).map fun x => .str x.2
  | _ => none
theorem meets41 {W0 : World} (L : Laid W0) : OkAt W0 41 F41 := by
  refine ⟨enterable_of Tryd.func41 (by kernel_rfl), meets_lib fun C args vs r hF J hr => ?_⟩
  unfold F41 at hF
  split at hF
  · rename_i n
    obtain ⟨x, hx, rfl⟩ := Option.map_eq_some_iff.1 hF
    have hm := List.mem_of_find?_eq_some hx
    have hn : x.1 = n := by simpa using List.find?_some hx
    have hp := pw_itoa x hm
    have hb : ∀ x ∈ pw, -9223372036854775808 ≤ x.1 ∧ x.1 ≤ 9223372036854775807 := by decide
    have hb := hb x hm
    obtain ⟨u, us, rfl, h1, h2⟩ := hr.uncons
    have : us = [] := by simpa using h2.1
    subst this
    cases h1 with | pv _ _ h1 =>
    cases h1
    subst hn
    refine ⟨trivial, (Any.strconv_Itoa Tryd.laysM171 x.1 hb.1 hb.2 C.w (tab_at J L.tab)).mono ?_⟩
    rintro e w' ⟨rfl, k, os, rfl⟩
    refine ⟨_, rfl, Lib.below_grow _ _ (Nat.le_refl _) _ _, fun D => ?_⟩
    rw [hp]; exact rel_str' D _
  · cases hF
def F42 : List SV → Option SV
  | [.pv (.str s), .pv (.int .i64 n)] => if (0 ≤ n ∧ n ≤ 3) ∧ s.length ≤ 10 then some (.str (Lib.repeatL s n.toNat)) else none
  | _ => none
theorem meets42 (W0 : World) : OkAt W0 42 F42 := by
  refine ⟨enterable_of Tryd.func42 (by kernel_rfl), meets_lib fun C args vs r hF J hr => ?_⟩
  unfold F42 at hF
  split at hF
  · rename_i s n
    split at hF
    · rename_i hn
      cases hF
      obtain ⟨u, us, rfl, h1, h2⟩ := hr.uncons
      obtain ⟨u2, us2, rfl, h3, h4⟩ := h2.uncons
      have : us2 = [] := by simpa using h4.1
      subst this
      cases h1 with | pv _ _ h1 =>
      cases h1
      cases h3 with | pv _ _ h3 =>
      cases h3
      obtain ⟨m, rfl⟩ : ∃ m : Nat, n = m := ⟨n.toNat, by omega⟩
      have hm : m ≤ 1000 := by omega
      have hb : (⟨s.toArray⟩ : ByteArray).size * m ≤ 140737488355328 := by
        have : (⟨s.toArray⟩ : ByteArray).size ≤ 10 := by simp [ByteArray.size]; exact hn.2
        calc _ ≤ 10 * 1000 := Nat.mul_le_mul this hm
          _ ≤ _ := by decide
      refine ⟨trivial, (Any.strings_Repeat Tryd.lays105 Tryd.Builder_Extra_105 ⟨s.toArray⟩ m C.w (by omega) hb).mono ?_⟩
      rintro e w' ⟨rfl, hB⟩
      exact ⟨_, rfl, hB, fun D => rel_str' D _⟩
    · cases hF
  · cases hF
/-- The text of a note value. -/
def baseT : List (List UInt8) := [[98], [49], [50], [52], [56], [49, 54], [51, 50], [54, 52], [49, 50, 56], [50, 53, 54]]
def txt (x : Int × Int) : List UInt8 := baseT.getD (x.1 + 1).toNat [] ++ List.replicate x.2.toNat 46
noncomputable def T31 : FuncId → Option Pm.Spec := tab [(23, .pure false F23), (41, .pure false F41), (42, .pure false F42)]
theorem T31_eq (g : Nat) : T31 g = tab [(23, .pure false F23), (41, .pure false F41), (42, .pure false F42)] g := rfl
theorem run31 (l d : Int) (hl : -1 ≤ l ∧ l ≤ 8) (hd : 0 ≤ d ∧ d ≤ 3) : prun Y T31 Tryd.f31 200 [.agg [.i l, .i d]] = some (.tuple [.str (txt (l, d)), .i 0]) := by
  rcases (by omega : l = -1 ∨ l = 0 ∨ l = 1 ∨ l = 2 ∨ l = 3 ∨ l = 4 ∨ l = 5 ∨ l = 6 ∨ l = 7 ∨ l = 8) with rfl | rfl | rfl | rfl | rfl | rfl | rfl | rfl | rfl | rfl <;>
    rcases (by omega : d = 0 ∨ d = 1 ∨ d = 2 ∨ d = 3) with rfl | rfl | rfl | rfl <;> kernel_rfl
/-- Its name. -/
def nameA : List (List UInt8) := [[], [100, 111, 116, 116, 101, 100, 32], [100, 111, 117, 98, 108, 101, 45, 100, 111, 116, 116, 101, 100, 32], [116, 114, 105, 112, 108, 101, 45, 100, 111, 116, 116, 101, 100, 32]]
def nameB : List (List UInt8) := [[100, 111, 117, 98, 108, 101, 32, 119, 104, 111, 108, 101], [119, 104, 111, 108, 101], [104, 97, 108, 102], [113, 117, 97, 114, 116, 101, 114], [101, 105, 103, 104, 116, 104], [49, 54, 116, 104], [51, 50, 110, 100], [54, 52, 116, 104], [49, 50, 56, 116, 104], [50, 53, 54, 116, 104]]
def nam (x : Int × Int) : List UInt8 := nameA.getD x.2.toNat [] ++ nameB.getD (x.1 + 1).toNat []
noncomputable def T32 : FuncId → Option Pm.Spec := tab [(23, .pure false F23)]
theorem T32_eq (g : Nat) : T32 g = tab [(23, .pure false F23)] g := rfl
theorem run32 (l d : Int) (hl : -1 ≤ l ∧ l ≤ 8) (hd : 0 ≤ d ∧ d ≤ 3) : prun Y T32 Tryd.f32 200 [.agg [.i l, .i d]] = some (.tuple [.str (nam (l, d)), .i 0]) := by
  rcases (by omega : l = -1 ∨ l = 0 ∨ l = 1 ∨ l = 2 ∨ l = 3 ∨ l = 4 ∨ l = 5 ∨ l = 6 ∨ l = 7 ∨ l = 8) with rfl | rfl | rfl | rfl | rfl | rfl | rfl | rfl | rfl | rfl <;>
    rcases (by omega : d = 0 ∨ d = 1 ∨ d = 2 ∨ d = 3) with rfl | rfl | rfl | rfl <;> kernel_rfl
theorem run34 (l d : Int) (hl : -1 ≤ l ∧ l ≤ 8) (hd : 0 ≤ d ∧ d ≤ 3) : prun Y T0 Tryd.f34 200 [.agg [.i l, .i d]] = some (.str (nam (l, d))) := by
  rcases (by omega : l = -1 ∨ l = 0 ∨ l = 1 ∨ l = 2 ∨ l = 3 ∨ l = 4 ∨ l = 5 ∨ l = 6 ∨ l = 7 ∨ l = 8) with rfl | rfl | rfl | rfl | rfl | rfl | rfl | rfl | rfl | rfl <;>
    rcases (by omega : d = 0 ∨ d = 1 ∨ d = 2 ∨ d = 3) with rfl | rfl | rfl | rfl <;> kernel_rfl
/-- Of two contracts one. -/
theorem OkAt.or {W0 : World} {g : Nat} {F G K : List SV → Option SV} (hF : OkAt W0 g F) (hG : OkAt W0 g G) (h : ∀ as1 r, K as1 = some r → F as1 = some r ∨ G as1 = some r) : OkAt W0 g K := ⟨hF.1, fun C args vs r' H' hK I J hr => by
  have h1 : specFn (.pure false F) args C.H = some (r', H') ∨ specFn (.pure false G) args C.H = some (r', H') := by
    simp only [specFn] at hK ⊢
    split at hK
    · rename_i as1 has
      split at hK
      · rename_i r hFr
        rcases h as1 r hFr with h | h
        · refine .inl ?_
          simp only [h]; exact hK
        · refine .inr ?_
          simp only [h]; exact hK
      · cases hK
    · cases hK
  rcases h1 with h1 | h1
  · exact hF.2 C args vs r' H' h1 I J hr
  · exact hG.2 C args vs r' H' h1 I J hr⟩
/-- Decimal numbers, by their length. -/
def dig1 (n : Int) : List UInt8 := [UInt8.ofNat (48 + n.toNat)]
def F43a : List SV → Option SV
  | [.pv (.int .i64 n)] => if 0 ≤ n ∧ n ≤ 9 then some (.str (dig1 n)) else none
  | _ => none
def pb : List (Int × List UInt8) := [(12, [49, 50]), (16, [49, 54]), (25, [50, 53]), (32, [51, 50]), (64, [54, 52])]
def F43b : List SV → Option SV
  | [.pv (.int .i64 n)] => (pb.find? fun x => x.1 == n).map fun x => .str x.2
  | _ => none
def F43 : List SV → Option SV := F41
theorem run43a (n : Int) (h : 0 ≤ n ∧ n ≤ 9) : prun Y T0 Tryd.f43 100 [.i n] = some (.str (dig1 n)) := by
  rcases (by omega : n = 0 ∨ n = 1 ∨ n = 2 ∨ n = 3 ∨ n = 4 ∨ n = 5 ∨ n = 6 ∨ n = 7 ∨ n = 8 ∨ n = 9) with rfl | rfl | rfl | rfl | rfl | rfl | rfl | rfl | rfl | rfl <;> kernel_rfl
theorem meets43a (W0 : World) : OkAt W0 43 F43a := ⟨enterable_of Tryd.func43 (by kernel_rfl), meets_prun env tok_nil mixed Tryd.func43 rfl (by kernel_rfl) fun args r h => by
  unfold F43a at h
  split at h
  · split at h
    · rename_i hc; cases h; exact ⟨100, run43a _ hc⟩
    · cases h
  · cases h⟩
noncomputable def T43a : FuncId → Option Pm.Spec := tab [(43, .pure false F43a)]
theorem run43b : ∀ x ∈ pb, prun Y T43a Tryd.f43 100 [.i x.1] = some (.str x.2) := by
  intro x hx
  simp only [pb, List.mem_cons, List.not_mem_nil, or_false] at hx
  rcases hx with rfl | rfl | rfl | rfl | rfl <;> kernel_rfl
theorem meets43b (W0 : World) : OkAt W0 43 F43b := ⟨enterable_of Tryd.func43 (by kernel_rfl), meets_prun env (tok_cons (meets43a W0) tok_nil) mixed Tryd.func43 rfl (by kernel_rfl) fun args r h => by
  unfold F43b at h
  split at h
  · rename_i n
    obtain ⟨x, hx, rfl⟩ := Option.map_eq_some_iff.1 h
    have hm := List.mem_of_find?_eq_some hx
    have hn : x.1 = n := by simpa using List.find?_some hx
    subst hn
    exact ⟨100, run43b x hm⟩
  · cases h⟩
def F43c : List SV → Option SV
  | [.pv (.int .i64 n)] => if 0 ≤ n ∧ n ≤ 9 then some (.str (dig1 n)) else (pb.find? fun x => x.1 == n).map fun x => .str x.2
  | _ => none
theorem meets43c (W0 : World) : OkAt W0 43 F43c := (meets43a W0).or (meets43b W0) fun as1 r h => by
  unfold F43c at h
  split at h
  · split at h
    · rename_i hc; left; simp only [F43a]; rw [if_pos hc]; exact h
    · right; exact h
  · cases h
noncomputable def T43c : FuncId → Option Pm.Spec := tab [(43, .pure false F43c)]
theorem run43 : ∀ x ∈ pw, prun Y T43c Tryd.f43 100 [.i x.1] = some (.str x.2) := by
  intro x hx
  simp only [pw, List.mem_cons, List.not_mem_nil, or_false] at hx
  rcases hx with rfl | rfl | rfl | rfl | rfl | rfl | rfl | rfl | rfl <;> kernel_rfl
theorem meets43 (W0 : World) : OkAt W0 43 F41 := ⟨enterable_of Tryd.func43 (by kernel_rfl), meets_prun env (tok_cons (meets43c W0) tok_nil) mixed Tryd.func43 rfl (by kernel_rfl) fun args r h => by
  unfold F41 at h
  split at h
  · rename_i n
    obtain ⟨x, hx, rfl⟩ := Option.map_eq_some_iff.1 h
    have hm := List.mem_of_find?_eq_some hx
    have hn : x.1 = n := by simpa using List.find?_some hx
    subst hn
    exact ⟨100, run43 x hm⟩
  · cases h⟩
/-- The reference's text. -/
noncomputable def T33 : FuncId → Option Pm.Spec := tab [(43, .pure false F41)]
theorem run33 (l d : Int) (hl : -1 ≤ l ∧ l ≤ 8) (hd : 0 ≤ d ∧ d ≤ 3) : prun Y T33 Tryd.f33 300 [.agg [.i l, .i d]] = some (.str (txt (l, d))) := by
  rcases (by omega : l = -1 ∨ l = 0 ∨ l = 1 ∨ l = 2 ∨ l = 3 ∨ l = 4 ∨ l = 5 ∨ l = 6 ∨ l = 7 ∨ l = 8) with rfl | rfl | rfl | rfl | rfl | rfl | rfl | rfl | rfl | rfl <;>
    rcases (by omega : d = 0 ∨ d = 1 ∨ d = 2 ∨ d = 3) with rfl | rfl | rfl | rfl <;> kernel_rfl
/-- The four functions' contracts. -/
def F31 : List SV → Option SV
  | [.agg [.pv (.int .i64 l), .pv (.int .i64 d)]] => some (.tuple [.str (if okV l d then txt (l, d) else []), .i (if okV l d then 0 else 17)])
  | _ => none
def F32 : List SV → Option SV
  | [.agg [.pv (.int .i64 l), .pv (.int .i64 d)]] => some (.tuple [.str (if okV l d then nam (l, d) else []), .i (if okV l d then 0 else 17)])
  | _ => none
def F33 : List SV → Option SV
  | [.agg [.pv (.int .i64 l), .pv (.int .i64 d)]] => if okV l d then some (.str (txt (l, d))) else none
  | _ => none
def F34 : List SV → Option SV
  | [.agg [.pv (.int .i64 l), .pv (.int .i64 d)]] => if okV l d then some (.str (nam (l, d))) else none
  | _ => none
theorem meets33 (W0 : World) : OkAt W0 33 F33 := ⟨enterable_of Tryd.func33 (by kernel_rfl), meets_prun env (tok_cons (meets43 W0) tok_nil) mixed Tryd.func33 rfl (by kernel_rfl) fun args r h => by
  unfold F33 at h
  split at h
  · split at h
    · rename_i hc; cases h; exact ⟨300, run33 _ _ hc.1 hc.2⟩
    · cases h
  · cases h⟩
theorem meets34 (W0 : World) : OkAt W0 34 F34 := ⟨enterable_of Tryd.func34 (by kernel_rfl), meets_prun env tok_nil mixed Tryd.func34 rfl (by kernel_rfl) fun args r h => by
  unfold F34 at h
  split at h
  · split at h
    · rename_i hc; cases h; exact ⟨200, run34 _ _ hc.1 hc.2⟩
    · cases h
  · cases h⟩
theorem x31n (l d : Int) (h : ¬ okV l d) : XFn Y T31 Tryd.f31 [.agg [.i l, .i d]] [] (Is (.tuple [.str [], .i 17])) := by
  unfold XFn Tryd.f31
  rw [enter_1 _ (by decide)]
  simp [T31_eq, F23, h]
theorem x32n (l d : Int) (h : ¬ okV l d) : XFn Y T32 Tryd.f32 [.agg [.i l, .i d]] [] (Is (.tuple [.str [], .i 17])) := by
  unfold XFn Tryd.f32
  rw [enter_1 _ (by decide)]
  simp [T32_eq, F23, h]
def F31n : List SV → Option SV
  | [.agg [.pv (.int .i64 l), .pv (.int .i64 d)]] => if ¬ okV l d then some (.tuple [.str [], .i 17]) else none
  | _ => none
def F31y : List SV → Option SV
  | [.agg [.pv (.int .i64 l), .pv (.int .i64 d)]] => if okV l d then some (.tuple [.str (txt (l, d)), .i 0]) else none
  | _ => none
def F32y : List SV → Option SV
  | [.agg [.pv (.int .i64 l), .pv (.int .i64 d)]] => if okV l d then some (.tuple [.str (nam (l, d)), .i 0]) else none
  | _ => none
theorem tok31 {W0 : World} (L : Laid W0) : TOk Tryd.prog W0 T31 := tok_cons (meets23 W0) (tok_cons (meets41 L) (tok_cons (meets42 W0) tok_nil))
theorem meets31y {W0 : World} (L : Laid W0) : OkAt W0 31 F31y := ⟨enterable_of Tryd.func31 (by kernel_rfl), meets_prun env (tok31 L) mixed Tryd.func31 rfl (by kernel_rfl) fun args r h => by
  unfold F31y at h
  split at h
  · split at h
    · rename_i hc; cases h; exact ⟨200, run31 _ _ hc.1 hc.2⟩
    · cases h
  · cases h⟩
theorem meets31n {W0 : World} (L : Laid W0) : OkAt W0 31 F31n := meets_fn env (tok31 L) mixed Tryd.func31 (by kernel_rfl) (by kernel_rfl) fun args r h => by
  unfold F31n at h
  split at h
  · split at h
    · rename_i hc; cases h; exact x31n _ _ hc
    · cases h
  · cases h
theorem meets31 {W0 : World} (L : Laid W0) : OkAt W0 31 F31 := (meets31y L).or (meets31n L) fun as1 r h => by
  unfold F31 at h
  split at h
  · rename_i l d
    by_cases hc : okV l d
    · left; simp only [F31y]; rw [if_pos hc]; rw [if_pos hc, if_pos hc] at h; exact h
    · right; simp only [F31n]; rw [if_pos hc]; rw [if_neg hc, if_neg hc] at h; exact h
  · cases h
theorem meets32y (W0 : World) : OkAt W0 32 F32y := ⟨enterable_of Tryd.func32 (by kernel_rfl), meets_prun env (tok_cons (meets23 W0) tok_nil) mixed Tryd.func32 rfl (by kernel_rfl) fun args r h => by
  unfold F32y at h
  split at h
  · split at h
    · rename_i hc; cases h; exact ⟨200, run32 _ _ hc.1 hc.2⟩
    · cases h
  · cases h⟩
theorem meets32n (W0 : World) : OkAt W0 32 F31n := meets_fn env (tok_cons (meets23 W0) tok_nil) mixed Tryd.func32 (by kernel_rfl) (by kernel_rfl) fun args r h => by
  unfold F31n at h
  split at h
  · split at h
    · rename_i hc; cases h; exact x32n _ _ hc
    · cases h
  · cases h
theorem meets32 (W0 : World) : OkAt W0 32 F32 := (meets32y W0).or (meets32n W0) fun as1 r h => by
  unfold F32 at h
  split at h
  · rename_i l d
    by_cases hc : okV l d
    · left; simp only [F32y]; rw [if_pos hc]; rw [if_pos hc, if_pos hc] at h; exact h
    · right; simp only [F31n]; rw [if_pos hc]; rw [if_neg hc, if_neg hc] at h; exact h
  · cases h
end Go.Proofs.YtngapiffgoignaaDoor
