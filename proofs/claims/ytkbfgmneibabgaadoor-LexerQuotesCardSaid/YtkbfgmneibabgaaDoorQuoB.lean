/- The reference's Quote, by the machine. -/
import Derived.Test.YtkbfgmneibabgaaDoorQuoA
set_option linter.unusedSimpArgs false
set_option linter.unusedVariables false
set_option maxRecDepth 1000000
set_option maxHeartbeats 1000000
namespace Go.Proofs.YtkbfgmneibabgaaDoor
open Go Go.Pm Go.RowKit
open LexP hiding place Sep Run
/-- Bytes so far. -/
def Buf (H : List Blk) (bs : Bs) (v : SV) : Prop := v = .tight 1 (bRow bs) ∨ ∃ kt u, v = .own kt u 1 (bRow bs) ∧ H[kt]? = some (.tok u 5)
theorem Buf.live {H : List Blk} {bs : Bs} {v : SV} (h : Buf H bs v) : live v = some v := by rcases h with rfl | ⟨kt, u, rfl, _⟩ <;> rfl
theorem Buf.conv {H : List Blk} {bs : Bs} {v : SV} (h : Buf H bs v) : aConv Y 36 9 v = some (.str bs) := by
  have := bytesOf_row bs
  rcases h with rfl | ⟨kt, u, rfl, _⟩ <;> simp [aConv, sliceElems, strideOk, this]
theorem app_buf {H : List Blk} {bs : Bs} {v : SV} (h : Buf H bs v) (c : UInt8) (l : Bs) (hl : bs.length + l.length ≤ 20000000) :
    ∃ v' H', aAppend Y H 36 36 v (.tight 1 (bRow (c :: l))) = some (v', H') ∧ Buf H' (bs ++ c :: l) v' ∧ live v' = some v' := by
  have hlen : (bRow (c :: l)).length = l.length + 1 := by simp [bRow]
  have hlb : (bRow bs).length = bs.length := by simp [bRow]
  have hne : bRow (c :: l) ≠ [] := by simp [bRow]
  have hemp : (bRow (c :: l)).isEmpty = false := by simp [bRow]
  have hb : bRow (bs ++ c :: l) = bRow bs ++ bRow (c :: l) := by simp [bRow]
  have hm : (bRow bs).length + (bRow (c :: l)).length ≤ 70368744177664 := by omega
  rcases h with rfl | ⟨kt, u, rfl, hkt⟩
  · refine ⟨.own H.length 0 1 (bRow (bs ++ c :: l)), H ++ [.tok 0 5], ?_, .inr ⟨_, _, rfl, by simp⟩, rfl⟩
    rw [hb]
    generalize bRow (c :: l) = xs at *
    simp [aAppend, sliceElems, strideOk, hemp, hne, hm]
  · refine ⟨.own kt (u + 1) 1 (bRow (bs ++ c :: l)), H.set kt (.tok (u + 1) 5), ?_, .inr ⟨_, _, rfl, by rw [List.getElem?_set_self (List.getElem?_eq_some_iff.1 hkt).1]⟩, rfl⟩
    rw [hb]
    generalize bRow (c :: l) = xs at *
    simp [aAppend, sliceElems, strideOk, hemp, hne, hm, hkt]
theorem hex_ix {q : Nat} (h : q < 16) : hexS[q]? = some (hexC q) := by
  have : ∀ q : Fin 16, hexS[q.1]? = some (hexC q.1) := by decide
  exact this ⟨q, h⟩
theorem loop21 {F : List Fr} {P : SV × List Blk → Prop} {s : Bs} (hs : s.length ≤ 20000) : ∀ (r pre : Bs) (bs : Bs) (v : SV) (H : List Blk), pre ++ r = s → bs.length ≤ 1 + 4 * pre.length → Buf H bs v →
    (∀ H' v', Buf H' (bs ++ quoB r) v' → X Y T0 [.tmp 2] F (.exit 0) ⟨mk 66 .J [(4, v')], H'⟩ P) →
    X Y T0 [.tmp 2] F (.loop (loopN Tryd.f21 0)) ⟨mk 66 .J [(0, .str s), (3, .str hexS), (4, v), (5, .i pre.length)], H⟩ P
  | [], pre, bs, v, H, hr, hb, hB, hx => by
    have hr' : pre = s := by simpa using hr
    have hx := hx H v (by simpa [quoB] using hB)
    apply X_loop_of
    · simp only [loopN, Tryd.f21, loopsOf, List.nil_append, List.append_nil, List.cons_append, List.getD_cons_succ, List.getD_cons_zero]; rfl
    subst hr'
    simp
    refine X_keep hx ?_
    simp
  | c :: r, pre, bs, v, H, hr, hb, hB, hx => by
    have hsl : s.length = pre.length + (r.length + 1) := by rw [← hr, List.length_append, List.length_cons]
    have hi : s[pre.length]? = some c := by rw [← hr]; simp
    have h1 : (pre.length : Int) < (s.length : Int) := by omega
    have w1 : IntKind.i64.wrap ((pre.length : Int) + 1) = ((pre ++ [c]).length : Int) := by rw [wrap64 (by omega) (by omega)]; simp
    have hpl : (pre ++ [c]).length = pre.length + 1 := by simp
    have hq4 := quo1_pos' c
    have ih : ∀ H' v', Buf H' (bs ++ quo1 c) v' → X Y T0 [.tmp 2] F (.loop (loopN Tryd.f21 0)) ⟨mk 66 .J [(0, .str s), (3, .str hexS), (4, v'), (5, .i (pre ++ [c]).length)], H'⟩ P := fun H' v' hB' =>
      loop21 hs r (pre ++ [c]) (bs ++ quo1 c) v' H' (by rw [← hr]; simp) (by rw [List.length_append, hpl]; omega) hB' (fun H'' v'' h => hx H'' v'' (by simpa [quoB, List.append_assoc] using h))
    clear hx hr
    have hlv := hB.live
    generalize ((pre ++ [c]).length : Int) = E at *
    apply X_loop_of
    · simp only [loopN, Tryd.f21, loopsOf, List.nil_append, List.append_nil, List.cons_append, List.getD_cons_succ, List.getD_cons_zero]; rfl
    by_cases hc : c = 10 ∨ c = 9 ∨ c = 92 ∨ c = 34
    · rcases hc with rfl | rfl | rfl | rfl
      · obtain ⟨v', H', g1, g2, g3⟩ := app_buf hB 92 [110] (by simp; omega)
        have g1 : aAppend Y H 36 36 v (.tight 1 [[.int .u8 92], [.int .u8 110]]) = some (v', H') := g1
        have ih := ih H' v' g2
        simp [-aAppend, h1, hi, hlv, g1, g3, w1]
        refine X_keep ih ?_
        simp
      · obtain ⟨v', H', g1, g2, g3⟩ := app_buf hB 92 [116] (by simp; omega)
        have g1 : aAppend Y H 36 36 v (.tight 1 [[.int .u8 92], [.int .u8 116]]) = some (v', H') := g1
        have ih := ih H' v' g2
        simp [-aAppend, h1, hi, hlv, g1, g3, w1]
        refine X_keep ih ?_
        simp
      · obtain ⟨v', H', g1, g2, g3⟩ := app_buf hB 92 [92] (by simp; omega)
        have g1 : aAppend Y H 36 36 v (.tight 1 [[.int .u8 92], [.int .u8 92]]) = some (v', H') := g1
        have ih := ih H' v' g2
        simp [-aAppend, h1, hi, hlv, g1, g3, w1]
        refine X_keep ih ?_
        simp
      · obtain ⟨v', H', g1, g2, g3⟩ := app_buf hB 92 [34] (by simp; omega)
        have g1 : aAppend Y H 36 36 v (.tight 1 [[.int .u8 92], [.int .u8 34]]) = some (v', H') := g1
        have ih := ih H' v' g2
        simp [-aAppend, h1, hi, hlv, g1, g3, w1]
        refine X_keep ih ?_
        simp
    · have hn : ¬ z c = 10 ∧ ¬ z c = 9 ∧ ¬ z c = 92 ∧ ¬ z c = 34 := by
        refine ⟨fun e => hc ?_, fun e => hc ?_, fun e => hc ?_, fun e => hc ?_⟩
        · exact .inl (z_inj (c := c) (d := 10) e)
        · exact .inr (.inl (z_inj (c := c) (d := 9) e))
        · exact .inr (.inr (.inl (z_inj (c := c) (d := 92) e)))
        · exact .inr (.inr (.inr (z_inj (c := c) (d := 34) e)))
      have hnz : ¬ (c.toNat : Int) = 10 ∧ ¬ (c.toNat : Int) = 9 ∧ ¬ (c.toNat : Int) = 92 ∧ ¬ (c.toNat : Int) = 34 := hn
      have hnn : ¬ c.toNat = 10 ∧ ¬ c.toNat = 9 ∧ ¬ c.toNat = 92 ∧ ¬ c.toNat = 34 := by omega
      by_cases h2 : stdZ (z c) = true
      · have hq : quo1 c = [c] := by unfold quo1; rw [if_neg hn.1, if_neg hn.2.1, if_neg hn.2.2.1, if_neg hn.2.2.2, if_pos h2]
        have h3 : ¬ (c.toNat : Int) < 32 ∧ ¬ (c.toNat : Int) = 127 := by simp [stdZ, z] at h2; omega
        have h3n : ¬ c.toNat < 32 ∧ ¬ c.toNat = 127 := by omega
        obtain ⟨v', H', g1, g2, g3⟩ := app_buf hB c [] (by simp; omega)
        have g1 : aAppend Y H 36 36 v (.tight 1 [[.int .u8 (c.toNat : Int)]]) = some (v', H') := g1
        have ih := ih H' v' (by rw [hq]; exact g2)
        simp [-Int.not_lt, -aAppend, h1, hi, hlv, hnz, hnn, h3, h3n, g1, g3, w1]
        refine X_keep ih ?_
        simp
      · have hq : quo1 c = [92, 120, hexC (c.toNat / 16), hexC (c.toNat % 16)] := by unfold quo1; rw [if_neg hn.1, if_neg hn.2.1, if_neg hn.2.2.1, if_neg hn.2.2.2, if_neg h2]
        have hcr := c.toNat_lt
        by_cases h127 : c = 127
        · subst h127
          obtain ⟨v', H', g1, g2, g3⟩ := app_buf hB 92 [120, 55, 102] (by simp; omega)
          have g1 : aAppend Y H 36 36 v (.tight 1 [[.int .u8 92], [.int .u8 120], [.int .u8 55], [.int .u8 102]]) = some (v', H') := g1
          have ih := ih H' v' (by rw [hq]; exact g2)
          have a1 : IntKind.u8.wrap 7 = 7 := wrap_u8 (by omega) (by omega)
          simp [-aAppend, h1, hi, hlv, a1, g1, g3, w1]
          refine X_keep ih ?_
          simp
        have a1 : IntKind.u8.wrap ((c.toNat : Int).tdiv 16) = ((c.toNat / 16 : Nat) : Int) := by rw [Int.tdiv_eq_ediv_of_nonneg (by omega), wrap_u8 (by omega) (by omega)]; omega
        have a2 : (c.toNat : Int).tmod 16 = ((c.toNat % 16 : Nat) : Int) := by rw [Int.tmod_eq_emod_of_nonneg (by omega)]; omega
        have a5 : IntKind.u8.wrap ((c.toNat : Int) / 16) = ((c.toNat / 16 : Nat) : Int) := by rw [wrap_u8 (by omega) (by omega)]; omega
        have a6 : (c.toNat : Int) % 16 = ((c.toNat % 16 : Nat) : Int) := by omega
        have s1 := hex_ix (q := c.toNat / 16) (by omega)
        have s2 := hex_ix (q := c.toNat % 16) (by omega)
        obtain ⟨v', H', g1, g2, g3⟩ := app_buf hB 92 [120, hexC (c.toNat / 16), hexC (c.toNat % 16)] (by simp; omega)
        have g1 : aAppend Y H 36 36 v (.tight 1 [[.int .u8 92], [.int .u8 120], [.int .u8 ((hexC (c.toNat / 16)).toNat : Int)], [.int .u8 ((hexC (c.toNat % 16)).toNat : Int)]]) = some (v', H') := g1
        have ih := ih H' v' (by rw [hq]; exact g2)
        clear hq g2 hsl
        have t1 : ((c.toNat / 16 : Nat) : Int).toNat = c.toNat / 16 := by omega
        have t2 : ((c.toNat % 16 : Nat) : Int).toNat = c.toNat % 16 := by omega
        have p1 : (0 : Int) ≤ ((c.toNat / 16 : Nat) : Int) := by omega
        have p2 : (0 : Int) ≤ ((c.toNat % 16 : Nat) : Int) := by omega
        generalize hexC (c.toNat / 16) = x1 at *
        generalize hexC (c.toNat % 16) = x2 at *
        generalize ((c.toNat / 16 : Nat) : Int) = Q1 at *
        generalize ((c.toNat % 16 : Nat) : Int) = Q2 at *
        generalize c.toNat / 16 = n1 at *
        generalize c.toNat % 16 = n2 at *
        by_cases h3 : (c.toNat : Int) < 32
        · have h3n : c.toNat < 32 := by omega
          simp [-Int.not_lt, -aAppend, -getElem?_pos, List.getElem?_cons_zero, List.getElem?_cons_succ, h1, hi, hlv, hnz, hnn, h3, h3n, a1, a2, a5, a6, t1, t2, p1, p2, s1, s2, g1, g3, w1]
          refine X_keep ih ?_
          simp
        · have h4 : (c.toNat : Int) = 127 := by simp [stdZ, z] at h2; omega
          exact absurd (z_inj (c := c) (d := 127) h4) h127
def F21 : List SV → Option SV
  | [.pv (.str s)] => if s.length ≤ 20000 then some (.str (quoL s)) else none
  | _ => none
theorem meets21 (W0 : World) : OkAt W0 21 F21 := meets_fn env tok_nil mixed Tryd.func21 (by kernel_rfl) (by kernel_rfl) fun args r h => by
  unfold F21 at h
  split at h
  · rename_i s
    split at h
    · rename_i hs
      cases h
      unfold XFn Tryd.f21
      rw [enter_1 _ (by decide)]
      simp
      refine X_keep (loop21 hs s [] [34] (.tight 1 (bRow [34])) [] rfl (by simp) (.inl rfl) ?_) ?_
      · intro H' v' hB
        have hq := (quoB_len s).2
        obtain ⟨v2, H2, g1, g2, g3⟩ := app_buf hB 34 [] (by simp; omega)
        have g1 : aAppend Y H' 36 36 v' (.tight 1 [[.int .u8 34]]) = some (v2, H2) := g1
        have g4 := g2.conv
        have e : [34] ++ quoB s ++ 34 :: [] = quoL s := by simp [quoL]
        rw [e] at g4
        simp [-aAppend, -aConv, hB.live, g1, g3, g4, Is_mk, outR, outP]
      · simp [bRow]
    · cases h
  · cases h
end Go.Proofs.YtkbfgmneibabgaaDoor
