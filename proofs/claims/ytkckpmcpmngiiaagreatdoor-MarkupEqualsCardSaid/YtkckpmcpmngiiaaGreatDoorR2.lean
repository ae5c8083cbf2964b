/- The reader: content, documents. -/
import Derived.Test.YtkckpmcpmngiiaaGreatDoorR1
/- The content of an element, by the machine, over elements that are given. -/
set_option linter.unusedSimpArgs false
set_option linter.unusedVariables false
set_option maxRecDepth 1000000
set_option maxHeartbeats 1000000
namespace Go.Proofs.YtkckpmcpmngiiaaGreatDoor
open Go Go.Pm Go.RowKit
/-- A region is not looked into for now. -/
def holdR (n : Nat) : Code → Code
  | .region id ops d => if id = n then Hold (.region id ops d) else .region id ops d
  | .loop b => .loop (holdR n b)
  | .seq a b => .seq (holdR n a) (holdR n b)
  | .cond x a b => .cond x (holdR n a) (holdR n b)
  | .block i b => .block i (holdR n b)
  | c => c
theorem holdR_eq (n : Nat) : ∀ c : Code, c = holdR n c := by
  intro c
  induction c <;> simp only [holdR] <;> first | rfl | (split <;> rfl) | (congr 1) | skip
theorem accN_facts {n0 : Nat} {H : List Blk} {ks : List Nd} {K : SV} (h : AccN n0 33 4 H (encL ks) K) : Pm.live K = some K ∧ aLen Y 31 K = some ks.length ∧ sliceElems K = some (encL ks) ∧ strideOk 4 K = true ∧ cellsOf K = some [K] := by
  refine ⟨h.1.live, ?_, ?_, ?_, acc_cells h.1⟩
  · rcases h.1 with ⟨h1, rfl⟩ | ⟨h1, kt, v, rfl, h2⟩
    · have : ks = [] := by cases ks with | nil => rfl | cons a b => simp [encL] at h1
      subst this; rfl
    · simp [aLen, kindOf, sliceElems, encL_len]
  · rcases h.1 with ⟨h1, rfl⟩ | ⟨h1, kt, v, rfl, h2⟩
    · rw [h1]; rfl
    · rfl
  · rcases h.1 with ⟨h1, rfl⟩ | ⟨h1, kt, v, rfl, h2⟩ <;> rfl
/-- What a call of the element's reader does. -/
def ElemOk (A : List SV → List Blk → Option (SV × List Blk)) (E : Rd → Option (Nd × Rd)) (s : Bs) (k lv : Nat) : Prop :=
  ∀ (g g' : Rd) (nd : Nd) (H : List Blk), g.ok' s → g.n ≤ 65536 → H[k]? = some (rb s g) → E g = some (nd, g') → (∃ H' cs, A [.ptr k 0, .i (lv + 1 : Nat)] H = some (.agg cs, H') ∧ pcells cs = some nd.enc ∧ FrK k H H' ∧ H'[k]? = some (rb s g')) ∧ g'.ok' s ∧ (g'.e = 0 → g'.n ≤ 65536)
theorem loop61 {F : List Fr} {P : SV × List Blk → Prop} {A : List SV → List Blk → Option (SV × List Blk)} {E : Rd → Option (Nd × Rd)} {H0 : List Blk} {k kn lv : Nat} {s nm : Bs} {p : SV} (hk0 : k < H0.length) (hn0 : kn < H0.length) (hkn : k ≠ kn) (hs : s.length ≤ 8000000) (hlv : lv ≤ 1000) (hE : ElemOk A E s k lv)
    {ks2 : List Nd} {g2 : Rd} (hx : ∀ H' K, Fr2 k kn H0 H' → H'[k]? = some (rb s g2) → H'[kn]? = some (bxN nm p [] K) → AccN H0.length 33 4 H' (encL ks2) K → X Y (T61 A) [] F (.exit 0) ⟨mk 103 .J [(0, .ptr k 0), (1, .ptr kn 0)], H'⟩ P) :
    ∀ (f : Nat) (g : Rd) (ks : List Nd) (H : List Blk) (K : SV), g.kidsN s E f ks = some (ks2, g2) → g.ok' s → (g.e = 0 → g.n ≤ 65536) → ks.length + f ≤ 9000000 → Fr2 k kn H0 H → H[k]? = some (rb s g) → H[kn]? = some (bxN nm p [] K) → AccN H0.length 33 4 H (encL ks) K →
    X Y (T61 A) [] F (.loop (loopN Tryz.f61 0)) ⟨mk 103 .J [(0, .ptr k 0), (1, .ptr kn 0), (2, .i (lv : Nat))], H⟩ P := by
  intro f
  induction f with
  | zero => intro g ks H K h; cases h
  | succ f ih =>
    intro g ks H K hki hok hgn hlen hF hk hb hA
    obtain ⟨lK, lenK, elK, stK, cK⟩ := accN_facts hA
    have hk' : H[k]? = some (.box (some 66) [.pv (.str s), .i (g.at' : Nat), .i (g.n : Nat), .i (g.e : Nat)]) := hk
    have fs : A57 [.ptr k 0, .str [60, 47]] H = some (.bool (g.sees s [60, 47]), H) := all57 hk hok [60, 47]
    have hklt := (List.getElem?_eq_some_iff.1 hk).1
    refine X_loop_of (holdR_eq 5 _) ?_
    simp only [loopN, Tryz.f61, loopsOf, List.nil_append, List.append_nil, List.cons_append, List.getD_cons_succ, List.getD_cons_zero, holdR]
    simp only [Rd.kidsN] at hki
    have go : g.e = 0 → (ks = [] ∨ g.sees s [60, 47] = false) → ∃ (nd : Nd) (g1 g3 : Rd) (H1 H2 : List Blk) (cs : List SV) (K2 : SV), frameC k H.length H (A [.ptr k 0, .i (lv + 1 : Nat)] H) = some (.agg cs, H1) ∧ pcells cs = some nd.enc ∧ aAppend Y H1 31 31 K (.tight 4 [nd.enc]) = some (K2, H2) ∧ cellsOf K2 = some [K2] ∧ H2[kn]? = some (bxN nm p [] K) ∧
        A38g [.ptr k 0] (H2.set kn (bxN nm p [] K2)) = some (.tuple [], (H2.set kn (bxN nm p [] K2)).set k (rb s g3)) ∧ X Y (T61 A) [] F (.loop (loopN Tryz.f61 0)) ⟨mk 103 .J [(0, .ptr k 0), (1, .ptr kn 0), (2, .i (lv : Nat))], (H2.set kn (bxN nm p [] K2)).set k (rb s g3)⟩ P := by
      intro he hcc
      rw [if_pos ⟨he, hcc⟩] at hki
      cases hEg : E g with
      | none => rw [hEg] at hki; cases hki
      | some r =>
        obtain ⟨nd, g1⟩ := r
        rw [hEg] at hki
        simp only [] at hki
        cases hmi : g1.misc s with
        | none => rw [hmi] at hki; cases hki
        | some g3 =>
          rw [hmi] at hki
          simp only [] at hki
          obtain ⟨⟨H1, cs, e1, e2, e3, e4⟩, e5, e6⟩ := hE g g1 nd H hok (hgn he) hk hEg
          have A1 := hA.frk e3 hk
          have F1 : Fr2 k kn H0 H1 := hF.trans e3.fr2
          obtain ⟨K2, H2, a1, a2, a3, a4, a5⟩ := app31N nd (by omega) A1 F1.1
          have b1 : H1[kn]? = some (bxN nm p [] K) := by rw [e3.2 kn (by have := hF.1; omega) (Ne.symm hkn)]; exact hb
          have b2 := a5 _ _ b1
          have k2 := a5 _ _ e4
          have n2lt := (List.getElem?_eq_some_iff.1 b2).1
          have k2lt := (List.getElem?_eq_some_iff.1 k2).1
          have k3 : (H2.set kn (bxN nm p [] K2))[k]? = some (rb s g1) := by rw [List.getElem?_set_ne (Ne.symm hkn)]; exact k2
          have m1 := all38g k3 hs e5 hmi
          have st := stp_misc hmi
          have A3 : AccN H0.length 33 4 ((H2.set kn (bxN nm p [] K2)).set k (rb s g3)) (encL (ks ++ [nd])) K2 := by
            have h1 := a2.1.box (cs' := [.pv (.str nm), p, .pv (.str []), K2]) b2
            exact ⟨h1.box k3, a2.2⟩
          have F2 : Fr2 k kn H0 H2 := ⟨Nat.le_trans F1.1 a3, fun j hj hjk hjn => by rw [a4 j hj]; exact F1.2 j hj hjk hjn⟩
          refine ⟨nd, g1, g3, H1, H2, cs, K2, by rw [e1]; exact frameC_some (.inr ⟨Nat.le_refl _, e3⟩), e2, a1, acc_cells a2.1, b2, m1, ?_⟩
          refine ih g3 (ks ++ [nd]) _ K2 hki (st.ok e5) (fun h3 => by rw [st.n]; exact e6 (st.good h3)) (by rw [List.length_append, List.length_singleton]; omega) ?_ (get_setk (by simpa using k2lt) _) (by rw [List.getElem?_set_ne hkn]; exact List.getElem?_set_self n2lt) A3
          exact (F2.trans (Fr2.set _)).trans (Fr2.setk _)
    have kill : ¬ (g.e = 0 ∧ (ks = [] ∨ g.sees s [60, 47] = false)) → X Y (T61 A) [] F (.exit 0) ⟨mk 103 .J [(0, .ptr k 0), (1, .ptr kn 0)], H⟩ P := by
      intro hn
      rw [if_neg hn] at hki
      cases hki
      exact hx H K hF hk hb hA
    have step : ∀ (j : SV) (l : List (Nat × SV)) (F' : List Fr) (ops : Array Oper), ops = ops5 → g.e = 0 → (ks = [] ∨ g.sees s [60, 47] = false) → Keeps j l [(0, .ptr k 0), (1, .ptr kn 0), (2, .i (lv : Nat))] →
        (∀ H2, (∃ g3, A38g [.ptr k 0] H2 = some (.tuple [], H2.set k (rb s g3)) ∧ X Y (T61 A) [] F (.loop (loopN Tryz.f61 0)) ⟨mk 103 .J [(0, .ptr k 0), (1, .ptr kn 0), (2, .i (lv : Nat))], H2.set k (rb s g3)⟩ P) → X Y (T61 A) [] F' .skip ⟨mk 103 .J [(0, .ptr k 0), (1, .ptr kn 0), (2, .i (lv : Nat))], H2⟩ P) →
        X Y (T61 A) [] F' (Hold (.region 5 ops true)) ⟨mk 103 j l, H⟩ P := by
      intro j l F' ops hops he hcc hl hnext
      obtain ⟨nd, g1, g3, H1, H2, cs, K2, e1, e2, e3, e4, e5, e6, e7⟩ := go he hcc
      refine X_keep (X_reg5 hops hlv hkn hb lK lenK e1 e2 elK stK e3 e4 e5 (hnext _ ⟨g3, e6, e7⟩)) hl
    by_cases he : g.e = 0
    · have c1 : ((g.e : Nat) : Int) = 0 := by omega
      by_cases hks : ks = []
      · have c2 : ((ks.length : Nat) : Int) = 0 := by rw [hks]; rfl
        simp [-Int.natCast_add, -getElem?_pos, List.getElem?_cons_zero, List.getElem?_cons_succ, -aLen, T61_eq, hk', hb, lK, lenK, c1, c2, beqZ, bneZ]
        refine step _ _ _ _ (by kernel_rfl) he (.inl hks) (by simp) (fun H2 hh => ?_)
        obtain ⟨g3, m1, hx3⟩ := hh
        simp [T61_eq, m1]
        refine X_keep hx3 ?_
        simp
      · have c2 : ¬ ((ks.length : Nat) : Int) = 0 := by
          have : ks.length ≠ 0 := fun h => hks (List.length_eq_zero_iff.1 h)
          omega
        cases hse : g.sees s [60, 47] with
        | true =>
          rw [hse] at fs
          simp [-Int.natCast_add, -getElem?_pos, List.getElem?_cons_zero, List.getElem?_cons_succ, -aLen, T61_eq, hk', hb, lK, lenK, c1, c2, hks, fs, beqZ, bneZ]
          refine X_keep (kill (fun h => h.2.elim hks (fun h' => by rw [hse] at h'; cases h'))) ?_
          simp
        | false =>
          rw [hse] at fs
          simp [-Int.natCast_add, -getElem?_pos, List.getElem?_cons_zero, List.getElem?_cons_succ, -aLen, T61_eq, hk', hb, lK, lenK, c1, c2, hks, fs, beqZ, bneZ]
          refine step _ _ _ _ (by kernel_rfl) he (.inr hse) (by simp) (fun H2 hh => ?_)
          obtain ⟨g3, m1, hx3⟩ := hh
          simp [T61_eq, m1]
          refine X_keep hx3 ?_
          simp
    · have c1 : ¬ ((g.e : Nat) : Int) = 0 := by omega
      simp [-Int.natCast_add, -getElem?_pos, List.getElem?_cons_zero, List.getElem?_cons_succ, -aLen, T61_eq, hk', hb, lK, lenK, c1, he, beqZ, bneZ]
      refine X_keep (kill (fun h => he h.1)) ?_
      simp
noncomputable abbrev c61 : Code := restN 2 (Tryz.f61.body.getD .skip)
/-- What the content of an element leaves. -/
def Left61 (H0 : List Blk) (k kn : Nat) (s nm : Bs) (p : SV) (tx : Bs) (ks : List Nd) (g' : Rd) (x : SV × List Blk) : Prop :=
  x.1 = .tuple [] ∧ x.2[k]? = some (rb s g') ∧ ∃ K, x.2[kn]? = some (bxN nm p tx K) ∧ AccN H0.length 33 4 x.2 (encL ks) K ∧ Fr2 k kn H0 x.2
theorem tail61 {A : List SV → List Blk → Option (SV × List Blk)} {H0 H : List Blk} {k kn : Nat} {s nm tx : Bs} {p K : SV} {ks : List Nd} {g : Rd} (hkn : k ≠ kn) (hs : s.length ≤ 8000000) (hg : g.ok' s) (hk : H[k]? = some (rb s g)) (hb : H[kn]? = some (bxN nm p tx K)) (hA : AccN H0.length 33 4 H (encL ks) K) (hF : Fr2 k kn H0 H) :
    X Y (T61 A) [] [] (Hold c61) ⟨mk 103 .J [(0, .ptr k 0), (1, .ptr kn 0)], H⟩ (Left61 H0 k kn s nm p tx ks (g.close s nm)) := by
  have hklt := (List.getElem?_eq_some_iff.1 hk).1
  have hset : ∀ (g2 : Rd) (H2 : List Blk), H2 = H.set k (rb s g2) → H2[k]? = some (rb s g2) ∧ H2[kn]? = some (bxN nm p tx K) := fun g2 H2 e => by
    subst e; exact ⟨get_setk hklt _, by rw [List.getElem?_set_ne hkn]; exact hb⟩
  have f1 : A59 [.ptr k 0, .pv (.int .u8 60)] H = some (.tuple [], H.set k (rb s (g.expect s 60))) := all59 hk (by omega) hg 60 (by decide)
  have o1 := (stp_expect s g 60).ok hg
  have f2 : A59 [.ptr k 0, .pv (.int .u8 47)] (H.set k (rb s (g.expect s 60))) = some (.tuple [], H.set k (rb s (g.close1 s))) := by
    have := all59 (get_setk hklt (rb s (g.expect s 60))) (by omega) o1 47 (by decide)
    rw [List.set_set] at this; exact this
  have o2 := (stp_close1 s g).ok hg
  unfold Rd.close
  generalize g.close1 s = g1 at *
  have f3 : A60 [.ptr k 0] (H.set k (rb s g1)) = some (.tuple [.str (g1.name s).1, .i (g1.at' : Nat)], H.set k (rb s (g1.name s).2)) := by
    have := all60 (get_setk hklt (rb s g1)) (by omega) o2
    rw [List.set_set] at this; exact this
  have f4 : A37 [.ptr k 0, .i (g1.at' : Nat), .i 13] (H.set k (rb s (g1.name s).2)) = some (.tuple [], H.set k (rb s ((g1.name s).2.fail g1.at' 13))) := by
    have := all37 (get_setk hklt (rb s (g1.name s).2)) g1.at' 13
    rw [List.set_set] at this; exact this
  have o3 := (stp_close2 s g1 nm).ok o2
  have f5 : A56 [.ptr k 0] (H.set k (rb s (g1.close2 s nm))) = some (.bool (decide ((g1.close2 s nm).at' < ((g1.close2 s nm).blanks s).at')), H.set k (rb s ((g1.close2 s nm).blanks s))) := by
    have := all56 (get_setk hklt (rb s (g1.close2 s nm))) (by omega) o3
    rw [List.set_set] at this; exact this
  have f6 : A59 [.ptr k 0, .pv (.int .u8 62)] (H.set k (rb s ((g1.close2 s nm).blanks s))) = some (.tuple [], H.set k (rb s (((g1.close2 s nm).blanks s).expect s 62))) := by
    have := all59 (get_setk hklt (rb s ((g1.close2 s nm).blanks s))) (by omega) ((stp_blanks s _).ok o3) 62 (by decide)
    rw [List.set_set] at this; exact this
  have fin : Left61 H0 k kn s nm p tx ks (((g1.close2 s nm).blanks s).expect s 62) (.tuple [], H.set k (rb s (((g1.close2 s nm).blanks s).expect s 62))) :=
    ⟨rfl, get_setk hklt _, K, (hset _ _ rfl).2, ⟨hA.1.box hk, hA.2⟩, hF.trans (Fr2.setk _)⟩
  have b3 := (hset (g1.name s).2 _ rfl).2
  generalize (((g1.close2 s nm).blanks s).expect s 62) = g9 at *
  unfold Hold c61 Tryz.f61
  simp only [restN, Option.getD_some]
  by_cases hc : (g1.name s).1 = nm
  · have e3 : g1.close2 s nm = (g1.name s).2 := by unfold Rd.close2; rw [if_neg (by simp [hc])]
    rw [e3] at f5 f6
    simp [-Int.natCast_add, -getElem?_pos, List.getElem?_cons_zero, List.getElem?_cons_succ, T61_eq, f1, f2, f3, b3, hc, f5, f6]
    exact fin
  · have e3 : g1.close2 s nm = (g1.name s).2.fail g1.at' 13 := by unfold Rd.close2; rw [if_pos hc]
    rw [e3] at f5 f6
    simp [-Int.natCast_add, -getElem?_pos, List.getElem?_cons_zero, List.getElem?_cons_succ, T61_eq, f1, f2, f3, b3, hc, f4, f5, f6]
    exact fin
theorem stp_kidsN_ok {s : Bs} {E : Rd → Option (Nd × Rd)} (hE : ∀ g g' nd, g.ok' s → E g = some (nd, g') → g'.ok' s) : ∀ (f : Nat) {g g2 : Rd} {ks ks2 : List Nd}, g.kidsN s E f ks = some (ks2, g2) → g.ok' s → g2.ok' s
  | 0, g, g2, ks, ks2, h, _ => by cases h
  | f + 1, g, g2, ks, ks2, h, hok => by
    simp only [Rd.kidsN] at h
    split at h
    · split at h
      · cases h
      · rename_i nd g1 hEg
        split at h
        · cases h
        · rename_i g3 hm
          exact stp_kidsN_ok hE f h ((stp_misc hm).ok (hE _ _ _ hok hEg))
    · cases h; exact hok
theorem x61 {A : List SV → List Blk → Option (SV × List Blk)} {E : Rd → Option (Nd × Rd)} {k kn lv : Nat} {s nm : Bs} {p : SV} {H : List Blk} {g g' : Rd} {tx : Bs} {ks : List Nd} (hkn : k ≠ kn) (hs : s.length ≤ 8000000) (hlv : lv ≤ 1000) (hg : g.ok' s) (hat : g.at' ≤ s.length) (hn : g.n ≤ 65536) (hE : ElemOk A E s k lv) (hEo : ∀ g g' nd, g.ok' s → E g = some (nd, g') → g'.ok' s)
    (hk : H[k]? = some (rb s g)) (hb : H[kn]? = some (bxN nm p [] (.pv .nilSlice))) (h : Rd.contN s E g nm = some (tx, ks, g')) :
    XFn Y (T61 A) Tryz.f61 [.ptr k 0, .ptr kn 0, .i (lv : Nat)] H (Left61 H k kn s nm p tx ks g') := by
  have hklt := (List.getElem?_eq_some_iff.1 hk).1
  have hnlt := (List.getElem?_eq_some_iff.1 hb).1
  have hk' : H[k]? = some (.box (some 66) [.pv (.str s), .i (g.at' : Nat), .i (g.n : Nat), .i (g.e : Nat)]) := hk
  have T := fun H2 g2 tx2 K ks2 => tail61 (A := A) (H0 := H) (H := H2) (nm := nm) (p := p) (g := g2) (tx := tx2) (K := K) (ks := ks2) hkn hs
  unfold XFn
  rw [enter_3 _ (by decide)]
  refine X_cut 2 ?_
  generalize htl : Hold (restN 2 (Tryz.f61.body.getD .skip)) = tl
  have htl2 : Hold c61 = tl := htl
  rw [htl2] at T
  clear htl htl2
  have c1 : ((g.at' : Nat) : Int) ≤ (s.length : Nat) := by omega
  have c0 : (0 : Int) ≤ (g.at' : Nat) := by omega
  have ht : (s.take s.length) = s := List.take_length
  have f1 : F76 [.str (s.drop g.at'), .str [32, 9, 10]] = some (.str ((s.drop g.at').dropWhile (blanks3.contains ·))) := rfl
  have hik : isKids s g = (hasPre ((s.drop g.at').dropWhile (blanks3.contains ·)) [60] && !hasPre ((s.drop g.at').dropWhile (blanks3.contains ·)) [60, 47]) := rfl
  generalize ((s.drop g.at').dropWhile (blanks3.contains ·)) = rest at *
  have f2 : F74 [.str rest, .str [60]] = some (.bool (hasPre rest [60])) := rfl
  have f3 : F74 [.str rest, .str [60, 47]] = some (.bool (hasPre rest [60, 47])) := rfl
  unfold Rd.contN at h
  have txt : isKids s g = false → ∃ H2, A77 [.ptr k 0, .pv (.int .u8 60)] H = some (.str (g.charsT s 60).1, H2) ∧ H2[k]? = some (rb s (g.charsT s 60).2) ∧ H2[kn]? = some (bxN nm p [] (.pv .nilSlice)) ∧ Fr2 k kn H H2 ∧ tx = (g.charsT s 60).1 ∧ ks = [] ∧ g' = (g.text s).close s nm := by
    intro hi
    rw [if_neg (by simp [hi])] at h
    cases h
    obtain ⟨H2, a1, a2, a3⟩ := all77 hk hs hg (en := 60) (by decide)
    exact ⟨H2, a1, a3, by rw [a2.2 kn hnlt (Ne.symm hkn)]; exact hb, a2.fr2, rfl, rfl, rfl⟩
  have kid : isKids s g = true → ∃ g1, g.misc s = some g1 ∧ A38g [.ptr k 0] H = some (.tuple [], H.set k (rb s g1)) ∧ ∀ F, (∀ H', X Y (T61 A) [] F (.exit 0) ⟨mk 103 .J [(0, .ptr k 0), (1, .ptr kn 0)], H'⟩ (Left61 H k kn s nm p tx ks g') ∨ ¬ X Y (T61 A) [] [] tl ⟨mk 103 .J [(0, .ptr k 0), (1, .ptr kn 0)], H'⟩ (Left61 H k kn s nm p tx ks g')) →
      X Y (T61 A) [] F (.loop (loopN Tryz.f61 0)) ⟨mk 103 .J [(0, .ptr k 0), (1, .ptr kn 0), (2, .i (lv : Nat))], H.set k (rb s g1)⟩ (Left61 H k kn s nm p tx ks g') := by
    intro hi
    rw [if_pos hi] at h
    cases hm : g.misc s with
    | none => rw [hm] at h; cases h
    | some g1 =>
      rw [hm] at h
      simp only [] at h
      cases hki : Rd.kidsN s E (s.length + 2) g1 [] with
      | none => rw [hki] at h; cases h
      | some r =>
        obtain ⟨ks2, g2⟩ := r
        rw [hki] at h
        cases h
        have st := stp_misc hm
        refine ⟨g1, rfl, all38g hk hs hg hm, fun F hx => ?_⟩
        refine loop61 (H0 := H) (nm := nm) (p := p) hklt hnlt hkn hs hlv hE (fun H' K b1 b2 b3 b4 => ?_) _ g1 [] _ (.pv .nilSlice) hki (st.ok hg) (fun _ => by rw [st.n]; exact hn) (by simp; omega) (Fr2.setk _) (get_setk hklt _) (by rw [List.getElem?_set_ne hkn]; exact hb) .nil
        exact (hx H').resolve_right (fun hn => hn (T H' g2 [] K _ (stp_kidsN_ok hEo _ hki (st.ok hg)) b2 b3 b4 b1))
  unfold Tryz.f61
  simp only [glue, Option.getD_some]
  by_cases hi : isKids s g = true
  · obtain ⟨g1, hm, m1, L⟩ := kid hi
    rw [hi] at hik
    simp only [Bool.true_eq, Bool.and_eq_true, Bool.not_eq_true'] at hik
    obtain ⟨i1, i2⟩ := hik
    rw [i1] at f2
    rw [i2] at f3
    simp [-Int.natCast_add, -Int.not_le, -Int.not_lt, -getElem?_pos, List.getElem?_cons_zero, List.getElem?_cons_succ, T61_eq, hk', c0, c1, hat, ht, f1, f2, f3, m1]
    refine X_keep (L _ (fun H' => ?_)) ?_
    · by_cases hq : X Y (T61 A) [] [] tl ⟨mk 103 .J [(0, .ptr k 0), (1, .ptr kn 0)], H'⟩ (Left61 H k kn s nm p tx ks g')
      · left; simp; exact hq
      · exact .inr hq
    · simp
  · have hi : isKids s g = false := by simpa using hi
    obtain ⟨H2, a1, a2, a3, a4, rfl, rfl, rfl⟩ := txt hi
    rw [hi] at hik
    have n2lt := (List.getElem?_eq_some_iff.1 a3).1
    have k2lt := (List.getElem?_eq_some_iff.1 a2).1
    have hset : ∀ b, (H2.set kn b)[kn]? = some b := fun b => List.getElem?_set_self n2lt
    have k3 : (H2.set kn (bxN nm p (g.charsT s 60).1 (.pv .nilSlice)))[k]? = some (rb s (g.charsT s 60).2) := by rw [List.getElem?_set_ne (Ne.symm hkn)]; exact a2
    have f5 : A37 [.ptr k 0, .i (g.at' : Nat), .i 5] (H2.set kn (bxN nm p (g.charsT s 60).1 (.pv .nilSlice))) = some (.tuple [], (H2.set kn (bxN nm p (g.charsT s 60).1 (.pv .nilSlice))).set k (rb s ((g.charsT s 60).2.fail g.at' 5))) := all37 k3 g.at' 5
    have okt := (stp_text s g).ok hg
    have next : ∀ H3, H3[k]? = some (rb s (g.text s)) → H3[kn]? = some (bxN nm p (g.charsT s 60).1 (.pv .nilSlice)) → Fr2 k kn H H3 → X Y (T61 A) [] [] tl ⟨mk 103 .J [(0, .ptr k 0), (1, .ptr kn 0)], H3⟩ (Left61 H k kn s nm p (g.charsT s 60).1 [] ((g.text s).close s nm)) :=
      fun H3 d1 d2 d3 => T H3 (g.text s) _ (.pv .nilSlice) [] okt d1 d2 .nil d3
    have F3 : Fr2 k kn H (H2.set kn (bxN nm p (g.charsT s 60).1 (.pv .nilSlice))) := a4.trans (Fr2.set _)
    have eT : g.text s = if 4096 < (g.charsT s 60).1.length then (g.charsT s 60).2.fail g.at' 5 else (g.charsT s 60).2 := rfl
    generalize (g.charsT s 60).1 = cx at *
    generalize (g.charsT s 60).2 = gc at *
    by_cases c5 : 4096 < cx.length
    · have c5' : (4096 : Int) < (cx.length : Nat) := by omega
      rw [if_pos c5] at eT
      have := next ((H2.set kn (bxN nm p cx (.pv .nilSlice))).set k (rb s (gc.fail g.at' 5))) (by rw [eT]; exact get_setk (by simpa using k2lt) _) (by rw [List.getElem?_set_ne hkn]; exact hset _) (F3.trans (Fr2.setk _))
      cases h1 : hasPre rest [60] with
      | false =>
        rw [h1] at f2
        simp [-Int.natCast_add, -Int.not_le, -Int.not_lt, -getElem?_pos, List.getElem?_cons_zero, List.getElem?_cons_succ, T61_eq, hk', c0, c1, hat, ht, f1, f2, f3, a1, a3, n2lt, hset, c5, c5', f5]
        refine X_keep this ?_
        simp
      | true =>
        have h2 : hasPre rest [60, 47] = true := by rw [h1] at hik; simpa using hik
        rw [h1] at f2
        rw [h2] at f3
        simp [-Int.natCast_add, -Int.not_le, -Int.not_lt, -getElem?_pos, List.getElem?_cons_zero, List.getElem?_cons_succ, T61_eq, hk', c0, c1, hat, ht, f1, f2, f3, a1, a3, n2lt, hset, c5, c5', f5]
        refine X_keep this ?_
        simp
    · have c5' : ¬ (4096 : Int) < (cx.length : Nat) := by omega
      rw [if_neg c5] at eT
      have := next (H2.set kn (bxN nm p cx (.pv .nilSlice))) (by rw [eT]; exact k3) (hset _) F3
      cases h1 : hasPre rest [60] with
      | false =>
        rw [h1] at f2
        simp [-Int.natCast_add, -Int.not_le, -Int.not_lt, -getElem?_pos, List.getElem?_cons_zero, List.getElem?_cons_succ, T61_eq, hk', c0, c1, hat, ht, f1, f2, f3, a1, a3, n2lt, hset, c5, c5']
        refine X_keep this ?_
        simp
      | true =>
        have h2 : hasPre rest [60, 47] = true := by rw [h1] at hik; simpa using hik
        rw [h1] at f2
        rw [h2] at f3
        simp [-Int.natCast_add, -Int.not_le, -Int.not_lt, -getElem?_pos, List.getElem?_cons_zero, List.getElem?_cons_succ, T61_eq, hk', c0, c1, hat, ht, f1, f2, f3, a1, a3, n2lt, hset, c5, c5']
        refine X_keep this ?_
        simp
end Go.Proofs.YtkckpmcpmngiiaaGreatDoor
/- Elements within elements, by the machine. -/
set_option linter.unusedSimpArgs false
set_option linter.unusedVariables false
set_option maxRecDepth 1000000
set_option maxHeartbeats 1000000
namespace Go.Proofs.YtkckpmcpmngiiaaGreatDoor
open Go Go.Pm Go.RowKit
theorem contN_ok {s : Bs} {E : Rd → Option (Nd × Rd)} (hE : ∀ g g' nd, g.ok' s → E g = some (nd, g') → g'.ok' s) {g g' : Rd} {nm tx : Bs} {ks : List Nd} (h : Rd.contN s E g nm = some (tx, ks, g')) (hok : g.ok' s) : g'.ok' s := by
  unfold Rd.contN at h
  split at h
  · split at h
    · cases h
    · rename_i g1 hm
      split at h
      · cases h
      · rename_i ks2 g2 hk
        cases h
        exact (stp_close s _ nm).ok (stp_kidsN_ok hE _ hk ((stp_misc hm).ok hok))
  · cases h
    exact (stp_close s _ nm).ok ((stp_text s g).ok hok)
theorem elemS_ok {s : Bs} {E : Rd → Option (Nd × Rd)} (hE : ∀ g g' nd, g.ok' s → E g = some (nd, g') → g'.ok' s) {lv : Nat} {g g' : Rd} {nd : Nd} (h : elemS s E lv g = some (nd, g')) (hok : g.ok' s) : g'.ok' s := by
  unfold elemS at h
  have ok1 : (g.el1 s lv).ok' s := (stp_expect s ⟨(g.el0 s lv).at', (g.el0 s lv).n + 1, (g.el0 s lv).e⟩ 60).ok ((stp_el0 s lv g).ok hok)
  split at h
  · cases h
  · rename_i l g4 c hat
    have ok4 := (stp_attrsN _ hat).ok ((stp_el2 s _).ok ok1)
    rcases attrsN_code _ hat with ⟨rfl, _⟩ | ⟨rfl, hse⟩ | ⟨rfl, hse⟩
    · simp only [] at h; cases h; exact ok4
    · simp only [] at h; cases h; exact (stp_expect s _ 62).ok (sees_next hse).1
    · simp only [] at h
      split at h
      · cases h
      · rename_i tx ks g5 hc
        cases h
        exact contN_ok hE hc (sees_next hse).1
theorem elem_ok {s : Bs} : ∀ (m lv : Nat) (g g' : Rd) (nd : Nd), g.ok' s → Rd.elem s m lv g = some (nd, g') → g'.ok' s
  | 0, lv, g, g', nd, hok, h => by cases h
  | m + 1, lv, g, g', nd, hok, h => elemS_ok (fun g g' nd h1 h2 => elem_ok m (lv + 1) g g' nd h1 h2) (by rw [elem_succ] at h; exact h) hok
/-- The number of elements stays within its limit; and an element takes a byte at least. -/
theorem kidsN_n {s : Bs} {E : Rd → Option (Nd × Rd)} (hE : ∀ g g' nd, g.n ≤ 65536 → E g = some (nd, g') → g'.e = 0 → g'.n ≤ 65536 ∧ g.at' < g'.at') : ∀ (f : Nat) {g g2 : Rd} {ks ks2 : List Nd}, g.kidsN s E f ks = some (ks2, g2) → (g.e = 0 → g.n ≤ 65536) → g2.e = 0 → g2.n ≤ 65536 ∧ g.at' ≤ g2.at'
  | 0, g, g2, ks, ks2, h, _, _ => by cases h
  | f + 1, g, g2, ks, ks2, h, hn, he => by
    simp only [Rd.kidsN] at h
    split at h
    · rename_i hc
      split at h
      · cases h
      · rename_i nd g1 hEg
        split at h
        · cases h
        · rename_i g3 hm
          have st := stp_misc hm
          obtain ⟨a1, a2⟩ := kidsN_n hE f h (fun h3 => by rw [st.n]; exact (hE _ _ _ (hn hc.1) hEg (st.good h3)).1) he
          refine ⟨a1, ?_⟩
          have e3 : g3.e = 0 := by
            apply Classical.byContradiction
            intro hb
            cases f with
            | zero => cases h
            | succ f =>
              simp only [Rd.kidsN] at h
              rw [if_neg (fun hh => hb hh.1)] at h
              cases h
              exact hb he
          have := (hE _ _ _ (hn hc.1) hEg (st.good e3)).2
          have := st.up e3
          omega
    · cases h; exact ⟨hn he, Nat.le_refl _⟩
theorem contN_n {s : Bs} {E : Rd → Option (Nd × Rd)} (hE : ∀ g g' nd, g.n ≤ 65536 → E g = some (nd, g') → g'.e = 0 → g'.n ≤ 65536 ∧ g.at' < g'.at') {g g' : Rd} {nm tx : Bs} {ks : List Nd} (h : Rd.contN s E g nm = some (tx, ks, g')) (hn : g.n ≤ 65536) (he : g'.e = 0) : g'.n ≤ 65536 ∧ g.at' ≤ g'.at' := by
  unfold Rd.contN at h
  split at h
  · split at h
    · cases h
    · rename_i g1 hm
      split at h
      · cases h
      · rename_i ks2 g2 hk
        cases h
        have st := stp_close s g2 nm
        have sm := stp_misc hm
        have e2 := st.good he
        obtain ⟨a1, a2⟩ := kidsN_n hE _ hk (fun _ => by rw [sm.n]; exact hn) e2
        have e1 : g1.e = 0 := by
          apply Classical.byContradiction
          intro hb
          simp only [Rd.kidsN] at hk
          rw [if_neg (fun hh => hb hh.1)] at hk
          cases hk
          exact hb e2
        exact ⟨by rw [st.n]; exact a1, by have := st.up he; have := sm.up e1; omega⟩
  · cases h
    have st := (stp_text s g).trans (stp_close s _ nm)
    exact ⟨by rw [st.n]; exact hn, st.up he⟩
theorem elemS_n {s : Bs} {E : Rd → Option (Nd × Rd)} (hE : ∀ g g' nd, g.n ≤ 65536 → E g = some (nd, g') → g'.e = 0 → g'.n ≤ 65536 ∧ g.at' < g'.at') {lv : Nat} {g g' : Rd} {nd : Nd} (h : elemS s E lv g = some (nd, g')) (hn : g.n ≤ 65536) (he : g'.e = 0) : g'.n ≤ 65536 ∧ g.at' < g'.at' := by
  unfold elemS at h
  have gd := fun he => el1_good (s := s) (lv := lv) hn he
  split at h
  · cases h
  · rename_i l g4 c hat
    have st := (stp_el2 s (g.el1 s lv)).trans (stp_attrsN _ hat)
    rcases attrsN_code _ hat with ⟨rfl, hb⟩ | ⟨rfl, hse⟩ | ⟨rfl, hse⟩
    · simp only [] at h; cases h; exact absurd he hb
    · simp only [] at h; cases h
      have sx := stp_expect s g4.next 62
      have e4 := sees_e hse
      obtain ⟨d1, d2, d3, d4⟩ := gd (st.good e4)
      refine ⟨?_, ?_⟩
      · rw [sx.n]; show g4.n ≤ 65536; rw [st.n]; exact d1
      · have := sx.up he; have := st.up e4; simp only [Rd.next] at *; omega
    · simp only [] at h
      have e4 := sees_e hse
      obtain ⟨d1, d2, d3, d4⟩ := gd (st.good e4)
      split at h
      · cases h
      · rename_i tx ks g5 hc
        cases h
        have hn4 : g4.next.n ≤ 65536 := by show g4.n ≤ 65536; rw [st.n]; exact d1
        obtain ⟨a1, a2⟩ := contN_n hE hc hn4 he
        have := st.up e4
        simp only [Rd.next] at a2
        exact ⟨a1, by omega⟩
theorem elem_n {s : Bs} : ∀ (m lv : Nat) (g g' : Rd) (nd : Nd), g.n ≤ 65536 → Rd.elem s m lv g = some (nd, g') → g'.e = 0 → g'.n ≤ 65536 ∧ g.at' < g'.at'
  | 0, lv, g, g', nd, hn, h, he => by cases h
  | m + 1, lv, g, g', nd, hn, h, he => elemS_n (fun g g' nd h1 h2 => elem_n m (lv + 1) g g' nd h1 h2) (by rw [elem_succ] at h; exact h) hn he
noncomputable def A39 : Nat → List SV → List Blk → Option (SV × List Blk)
  | 0 => fun _ _ => none
  | m + 1 => arunAll Y (T39 (arunAll Y (T61 (A39 m)) Tryz.f61)) Tryz.f39
theorem meets39 {W0 : World} (L : Laid W0) : ∀ m, Enterable Tryz.prog 39 ∧ Meets Tryz.prog W0 39 (specFn (.heap (A39 m)))
  | 0 => ⟨enterable_of Tryz.func39 (by kernel_rfl), fun C args vs r H' h => by cases h⟩
  | m + 1 => by
    have h61 : Enterable Tryz.prog 61 ∧ Meets Tryz.prog W0 61 (specFn (.heap (arunAll Y (T61 (A39 m)) Tryz.f61))) :=
      meets_heap env (tok_cons (meets76 W0) (tok_cons (meets74 W0) (tok_cons (meets38g L) (tok_cons (meets57 W0) (tok_cons (meets39 L m) (tok_cons (meets77 W0) (tok_cons (meets37 W0) (tok_cons (meets59 W0) (tok_cons (meets60 W0) (tok_cons (meets56 W0) tok_nil)))))))))) mixed Tryz.func61 (by kernel_rfl) (by kernel_rfl)
    exact meets_heap env (tok_cons (meets57 W0) (tok_cons (meets37 W0) (tok_cons (meets59 W0) (tok_cons (meets60 W0) (tok_cons (meets56 W0) (tok_cons (meets62 W0) (tok_cons h61 tok_nil))))))) mixed Tryz.func39 (by kernel_rfl) (by kernel_rfl)
theorem all39 {s : Bs} {k : Nat} (hs : s.length ≤ 8000000) : ∀ (m lv : Nat), lv + m ≤ 1000 → ElemOk (A39 m) (Rd.elem s m (lv + 1)) s k lv
  | 0, lv, _ => fun g g' nd H _ _ _ h => by cases h
  | m + 1, lv, hm => fun g g' nd H hok hn hk h => by
    rw [elem_succ] at h
    have ih := all39 (k := k) hs m (lv + 1) (by omega)
    have hx := x39 (A := arunAll Y (T61 (A39 m)) Tryz.f61) (E := Rd.elem s m (lv + 1 + 1)) (lv := lv + 1) hs hok hn (by omega) (fun nm kn g g2 tx ks p H hkn h1 h2 hat h3 h4 h5 => by
      obtain ⟨r, H', q1, q2, q3, K, q4, q5, q6⟩ := all_of_XFn (by rfl) (x61 (nm := nm) (p := p) hkn hs (by omega) h1 hat h2 ih (fun g g' nd => elem_ok m (lv + 1 + 1) g g' nd) h3 h4 h5)
      simp only at q2 q3 q4 q5 q6
      subst q2
      exact ⟨H', K, q1, q3, q4, q5, q6⟩) h hk
    obtain ⟨r, H', q1, cs, q2, q3, q4, q5⟩ := all_of_XFn (by rfl) hx
    simp only at q2 q3 q4 q5
    subst q2
    exact ⟨⟨H', cs, q1, q3, q4, q5⟩, elem_ok (m + 1) (lv + 1) g g' nd hok (by rw [elem_succ]; exact h), fun he => (elem_n (m + 1) (lv + 1) g g' nd hn (by rw [elem_succ]; exact h) he).1⟩
end Go.Proofs.YtkckpmcpmngiiaaGreatDoor
/- The reader stays within the text, error or not. -/
set_option linter.unusedSimpArgs false
set_option linter.unusedVariables false
set_option maxRecDepth 1000000
set_option maxHeartbeats 400000
namespace Go.Proofs.YtkckpmcpmngiiaaGreatDoor
open Go Go.Pm Go.RowKit
theorem in_fail {n : Nat} {g : Rd} (h : g.at' ≤ n) {p : Nat} (hp : p ≤ n) (e : Nat) : (g.fail p e).at' ≤ n := by unfold Rd.fail; split <;> assumption
theorem in_if {n : Nat} {p : Prop} [Decidable p] {a b : Rd} (h : a.at' ≤ n) (k : b.at' ≤ n) : (if p then a else b).at' ≤ n := by split <;> assumption
theorem in_blanks {s : Bs} {g : Rd} (h : g.at' ≤ s.length) : (g.blanks s).at' ≤ s.length := by
  unfold Rd.blanks; split
  · exact skip_le h
  · exact h
theorem in_expect {s : Bs} {g : Rd} (h : g.at' ≤ s.length) (c : Nat) : (g.expect s c).at' ≤ s.length := by
  unfold Rd.expect; split
  · exact h
  · split
    · exact h
    · rename_i b hb
      have := (List.getElem?_eq_some_iff.1 hb).1
      split
      · exact this
      · exact h
theorem in_name {s : Bs} {g : Rd} (h : g.at' ≤ s.length) : (g.name s).2.at' ≤ s.length := by
  unfold Rd.name; split
  · exact h
  · split
    · exact h
    · split
      · exact skip_le h
      · exact h
theorem in_chars {s : Bs} {en : Nat} : ∀ (f : Nat) (acc : Bs) (g : Rd), g.e = 0 → g.at' ≤ s.length → (g.chars s en f acc).2.at' ≤ s.length
  | 0, acc, g, _, h => h
  | f + 1, acc, g, he, h => by
    simp only [Rd.chars]
    split
    · exact h
    · rename_i b hb
      have hlt := (List.getElem?_eq_some_iff.1 hb).1
      split
      · exact h
      · split
        · exact h
        · split
          · split
            · exact h
            · rename_i hne
              split
              · rename_i x hx
                obtain ⟨q, y, e1, e2, e3⟩ := entI_some hne
                rw [Nat.zero_add] at e1
                rw [e1, Int.toNat_natCast, e2] at hx
                cases hx
                have := sees_len e3
                exact in_chars f _ _ he (by simp only; omega)
              · exact h
          · exact in_chars f _ _ he (by simp only; omega)
theorem in_charsT {s : Bs} {g : Rd} (h : g.at' ≤ s.length) (en : Nat) : (g.charsT s en).2.at' ≤ s.length := by
  unfold Rd.charsT; split
  · exact h
  · rename_i he
    exact in_chars _ _ _ (by simpa using he) h
theorem in_attr1 {s : Bs} {g : Rd} (h : g.at' ≤ s.length) (l : List (Bs × Bs)) : (g.attr1 s l).at' ≤ s.length := by
  have hn := in_name h
  unfold Rd.attr1
  exact in_if (in_fail hn h _) (in_if (in_fail hn h _) (in_if (in_fail hn h _) hn))
theorem in_attr2 {s : Bs} {g : Rd} (h : g.at' ≤ s.length) : (g.attr2 s).at' ≤ s.length := in_blanks (in_expect (in_blanks h) _)
theorem in_attr3 {s : Bs} {g : Rd} (h : g.at' ≤ s.length) : (g.attr3 s).2.at' ≤ s.length := in_charsT (in_expect (in_attr2 h) _) _
theorem in_attr4 {s : Bs} {g : Rd} (h : g.at' ≤ s.length) : (g.attr4 s).at' ≤ s.length := in_expect (in_if (in_fail (in_attr3 h) (in_attr2 h) _) (in_attr3 h)) _
theorem in_to {s : Bs} {g : Rd} {a : Nat} (h : a ≤ s.length) : (g.to s a).at' ≤ s.length := by
  unfold Rd.to; split
  · exact in_fail h (by omega) _
  · exact h
theorem in_miscL {s : Bs} : ∀ (f : Nat) {g g2 : Rd}, g.miscL s f = some g2 → g.at' ≤ s.length → g2.at' ≤ s.length
  | 0, g, g2, h, _ => by cases h
  | f + 1, g, g2, h, hi => by
    simp only [Rd.miscL] at h
    split at h
    · rename_i hse
      split at h
      · cases h; exact in_fail hi (Nat.le_refl _) _
      · rename_i n hx
        have hfit := index_fit (s := s.drop (g.at' + 4)) (n := n) hx
        rw [List.length_drop] at hfit
        have := sees_len hse
        simp only [com, List.length_cons, List.length_nil] at this
        exact in_miscL f h (in_blanks (in_expect (in_to (by omega)) _))
    · cases h; exact hi
theorem in_misc {s : Bs} {g g2 : Rd} (h : g.misc s = some g2) (hi : g.at' ≤ s.length) : g2.at' ≤ s.length := in_miscL _ h (in_blanks hi)
theorem in_attrsN {s : Bs} : ∀ (f : Nat) {g : Rd} {l l2 : List (Bs × Bs)} {g2 : Rd} {c : Nat}, g.attrsN s f l = some (l2, g2, c) → g.at' ≤ s.length → g2.at' ≤ s.length
  | 0, g, l, l2, g2, c, h, _ => by cases h
  | f + 1, g, l, l2, g2, c, h, hi => by
    have hb := in_blanks hi
    simp only [Rd.attrsN] at h
    split at h
    · cases h; exact hi
    · split at h
      · cases h; exact hb
      · split at h
        · cases h; exact hb
        · split at h
          · exact in_attrsN f h (in_fail hb hb _)
          · split at h
            · exact in_attrsN f h (in_fail hb hb _)
            · exact in_attrsN f h (in_attr4 (in_attr1 hb l))
theorem in_close {s : Bs} {g : Rd} (h : g.at' ≤ s.length) (nm : Bs) : (g.close s nm).at' ≤ s.length := by
  have h1 : (g.close1 s).at' ≤ s.length := in_expect (in_expect h _) _
  have h2 : ((g.close1 s).close2 s nm).at' ≤ s.length := in_if (in_fail (in_name h1) h1 _) (in_name h1)
  exact in_expect (in_blanks h2) _
theorem in_text {s : Bs} {g : Rd} (h : g.at' ≤ s.length) : (g.text s).at' ≤ s.length := in_if (in_fail (in_charsT h _) h _) (in_charsT h _)
theorem in_kidsN {s : Bs} {E : Rd → Option (Nd × Rd)} (hE : ∀ g g' nd, g.at' ≤ s.length → E g = some (nd, g') → g'.at' ≤ s.length) : ∀ (f : Nat) {g g2 : Rd} {ks ks2 : List Nd}, g.kidsN s E f ks = some (ks2, g2) → g.at' ≤ s.length → g2.at' ≤ s.length
  | 0, g, g2, ks, ks2, h, _ => by cases h
  | f + 1, g, g2, ks, ks2, h, hi => by
    simp only [Rd.kidsN] at h
    split at h
    · split at h
      · cases h
      · rename_i nd g1 hEg
        split at h
        · cases h
        · rename_i g3 hm
          exact in_kidsN hE f h (in_misc hm (hE _ _ _ hi hEg))
    · cases h; exact hi
theorem in_contN {s : Bs} {E : Rd → Option (Nd × Rd)} (hE : ∀ g g' nd, g.at' ≤ s.length → E g = some (nd, g') → g'.at' ≤ s.length) {g g' : Rd} {nm tx : Bs} {ks : List Nd} (h : Rd.contN s E g nm = some (tx, ks, g')) (hi : g.at' ≤ s.length) : g'.at' ≤ s.length := by
  unfold Rd.contN at h
  split at h
  · split at h
    · cases h
    · rename_i g1 hm
      split at h
      · cases h
      · rename_i ks2 g2 hk
        cases h
        exact in_close (in_kidsN hE _ hk (in_misc hm hi)) _
  · cases h
    exact in_close (in_text hi) _
theorem in_elem {s : Bs} : ∀ (m lv : Nat) (g g' : Rd) (nd : Nd), g.at' ≤ s.length → Rd.elem s m lv g = some (nd, g') → g'.at' ≤ s.length
  | 0, lv, g, g', nd, hi, h => by cases h
  | m + 1, lv, g, g', nd, hi, h => by
    rw [elem_succ] at h
    unfold elemS at h
    have h0 : (g.el0 s lv).at' ≤ s.length := in_if (in_fail hi hi _) hi
    have h1 : (g.el1 s lv).at' ≤ s.length := in_expect (g := ⟨(g.el0 s lv).at', (g.el0 s lv).n + 1, (g.el0 s lv).e⟩) h0 60
    have h2 : ((g.el1 s lv).el2 s).at' ≤ s.length := in_if (in_fail (in_name h1) h1 _) (in_name h1)
    split at h
    · cases h
    · rename_i l g4 c hat
      have h4 := in_attrsN _ hat h2
      rcases attrsN_code _ hat with ⟨rfl, _⟩ | ⟨rfl, hse⟩ | ⟨rfl, hse⟩
      · simp only [] at h; cases h; exact h4
      · simp only [] at h; cases h; exact in_expect (sees_next hse).2 62
      · simp only [] at h
        split at h
        · cases h
        · rename_i tx ks g5 hc
          cases h
          exact in_contN (fun g g' nd a b => in_elem m (lv + 1) g g' nd a b) hc (sees_next hse).2
end Go.Proofs.YtkckpmcpmngiiaaGreatDoor
/- Parse, by the machine. -/
set_option linter.unusedSimpArgs false
set_option linter.unusedVariables false
set_option maxRecDepth 1000000
set_option maxHeartbeats 1000000
namespace Go.Proofs.YtkckpmcpmngiiaaGreatDoor
open Go Go.Pm Go.RowKit
noncomputable def T15 : FuncId → Option Pm.Spec := tab [(36, .pure false (bF perZ)), (37, .heap A37), (38, .heap A38g), (39, .heap (A39 40)), (40, .pure false F40), (41, .pure false F41)]
theorem T15_eq (g : Nat) : T15 g = tab [(36, .pure false (bF perZ)), (37, .heap A37), (38, .heap A38g), (39, .heap (A39 40)), (40, .pure false F40), (41, .pure false F41)] g := rfl
/-- The first byte that is not permitted. -/
def startAt (s : Bs) (i : Nat) : Rd := if skip (bB perZ) s i < s.length then ⟨skip (bB perZ) s i, 0, 6⟩ else ⟨0, 0, 0⟩
def parseR (s : Bs) : Option (Nd × Rd) := match (startAt s 0).misc s with
  | none => none
  | some g1 => match Rd.elem s 40 1 g1 with
    | none => none
    | some (n, g2) => match g2.misc s with
      | none => none
      | some g3 => some (n, if g3.e = 0 ∧ g3.at' < s.length then g3.fail g3.at' 13 else g3)
def zeroNd : Nd := .mk [] [] [] []
def prsE (s : Bs) (n : Nd) (g : Rd) : SV := if g.e = 0 then .tuple [encS n, .i 0, .i 0, .i 0] else
  .tuple [encS zeroNd, .i (1 + (Lib.countByte (s.take g.at') 10 : Nat)), .i ((g.at' : Nat) - Lib.lastIndexByte ⟨(s.take g.at').toArray⟩ 10), .i (g.e : Nat)]
theorem loop15 {F : List Fr} {P : SV × List Blk → Prop} {rs : List ResultVar} {s : Bs} (hs : s.length ≤ 8000000) : ∀ (r i : Nat), i + r = s.length →
    X Y T15 rs F (.exit 0) ⟨mk 83 .J [(0, .str s), (2, .ptr 0 0), (6, .ptr 1 0)], [zeroN, rb s (startAt s i)]⟩ P →
    X Y T15 rs F (.loop (loopN Tryz.f15 0)) ⟨mk 83 .J [(0, .str s), (2, .ptr 0 0), (6, .ptr 1 0), (17, .i (s.length : Nat)), (18, .i (i : Nat))], [zeroN, rb s ⟨0, 0, 0⟩]⟩ P := by
  intro r
  induction r with
  | zero =>
    intro i e hx
    have e1 : i = s.length := by omega
    subst e1
    have e2 : startAt s s.length = ⟨0, 0, 0⟩ := by unfold startAt; rw [skip_end (Nat.le_refl _), if_neg (Nat.lt_irrefl _)]
    rw [e2] at hx
    apply X_loop_of
    · simp only [loopN, Tryz.f15, loopsOf, List.nil_append, List.append_nil, List.cons_append, List.getD_cons_succ, List.getD_cons_zero]; rfl
    simp
    refine X_keep hx (by simp)
  | succ r ih =>
    intro i e hx
    have hi : i < s.length := by omega
    obtain ⟨c, hc⟩ : ∃ c, s[i]? = some c := ⟨_, List.getElem?_eq_getElem hi⟩
    have hb := bF_at perZ c
    have q3 := next_i (m := i) (by omega)
    have c4 : ((i : Nat) : Int) < (s.length : Nat) := by omega
    apply X_loop_of
    · simp only [loopN, Tryz.f15, loopsOf, List.nil_append, List.append_nil, List.cons_append, List.getD_cons_succ, List.getD_cons_zero]; rfl
    cases hbc : bB perZ c with
    | true =>
      have e2 : startAt s i = startAt s (i + 1) := by unfold startAt; rw [skip_some hc, if_pos hbc]
      rw [e2] at hx
      rw [hbc] at hb
      simp [-Int.natCast_add, -Int.not_lt, -Int.not_le, -getElem?_pos, List.getElem?_cons_zero, List.getElem?_cons_succ, T15_eq, q3, c4, hi, hc, hb, beqZ, bneZ]
      refine X_keep (ih (i + 1) (by omega) hx) ?_
      simp
    | false =>
      have e1 : skip (bB perZ) s i = i := by rw [skip_some hc, if_neg (by simp [hbc])]
      have e2 : startAt s i = ⟨i, 0, 6⟩ := by unfold startAt; rw [e1, if_pos hi]
      rw [e2] at hx
      rw [hbc] at hb
      have f1 : A37 [.ptr 1 0, .i (i : Nat), .i 6] [zeroN, rb s ⟨0, 0, 0⟩] = some (.tuple [], [zeroN, rb s ⟨i, 0, 6⟩]) := all37 (H := [zeroN, rb s ⟨0, 0, 0⟩]) (k := 1) rfl i 6
      simp [-Int.natCast_add, -Int.not_lt, -Int.not_le, -getElem?_pos, List.getElem?_cons_zero, List.getElem?_cons_succ, T15_eq, q3, c4, hi, hc, hb, f1, beqZ, bneZ]
      refine X_keep hx ?_
      simp
theorem pcells_len : ∀ {cs : List SV} {ps : List PV}, pcells cs = some ps → cs.length = ps.length
  | [], ps, h => by simp [pcells] at h; subst h; rfl
  | c :: r, ps, h => by
    simp only [pcells] at h
    split at h
    · split at h
      · rename_i qs hq
        cases h
        simp [pcells_len hq]
      · cases h
    · cases h
theorem four {cs : List SV} {n : Nd} (h : pcells cs = some n.enc) : ∃ a b c d, cs = [a, b, c, d] := by
  have := pcells_len h
  rw [enc_eq] at this
  match cs, this with
  | [a, b, c, d], _ => exact ⟨a, b, c, d, rfl⟩
theorem encS_map (n : Nd) : encS n = .agg (n.enc.map .pv) := by rw [enc_eq]; rfl
theorem x15 {s : Bs} {n : Nd} {g : Rd} (hs : s.length ≤ 4194304) (h : parseR s = some (n, g)) : XFn Y T15 Tryz.f15 [.str s] [] (Is (prsE s n g)) := by
  unfold XFn Tryz.f15
  rw [enter_1 _ (by decide)]
  have c1 : ¬ (4194304 : Int) < (s.length : Nat) := by omega
  have c1' : ¬ 4194304 < s.length := by omega
  have L := fun F P rs => loop15 (F := F) (P := P) (rs := rs) (s := s) (by omega) s.length 0 (by omega)
  unfold parseR at h
  have s_in : (startAt s 0).at' ≤ s.length := by
    unfold startAt; split
    · exact skip_le (Nat.zero_le _)
    · exact Nat.zero_le _
  have s_ok : (startAt s 0).ok' s := fun _ => s_in
  have s_n : (startAt s 0).n = 0 := by unfold startAt; split <;> rfl
  generalize startAt s 0 = g0 at *
  cases hm : g0.misc s with
  | none => rw [hm] at h; cases h
  | some g1 =>
    rw [hm] at h
    simp only [] at h
    cases he : Rd.elem s 40 1 g1 with
    | none => rw [he] at h; cases h
    | some r =>
      obtain ⟨nd, g2⟩ := r
      rw [he] at h
      simp only [] at h
      cases hm2 : g2.misc s with
      | none => rw [hm2] at h; cases h
      | some g3 =>
        rw [hm2] at h
        simp only [Option.some.injEq, Prod.mk.injEq] at h
        obtain ⟨hn, hg⟩ := h
        have st1 := stp_misc hm
        have ok1 := st1.ok s_ok
        have in1 := in_misc hm s_in
        have f1 : A38g [.ptr 1 0] [zeroN, rb s g0] = some (.tuple [], [zeroN, rb s g1]) := all38g (H := [zeroN, rb s g0]) (k := 1) rfl (by omega) s_ok hm
        obtain ⟨⟨H2, cs, f2, p2, F2, k2⟩, ok2, -⟩ := all39 (s := s) (k := 1) (by omega) 40 0 (by omega) g1 g2 nd [zeroN, rb s g1] ok1 (by rw [st1.n, s_n]; decide) rfl he
        have f2 : A39 40 [.ptr 1 0, .i 1] [zeroN, rb s g1] = some (.agg cs, H2) := f2
        have in2 := in_elem _ _ _ _ _ in1 he
        have z2 : H2[0]? = some zeroN := F2.2 0 (by simp) (by decide)
        have z2l := (List.getElem?_eq_some_iff.1 z2).1
        obtain ⟨a, b, c, d, rfl⟩ := four p2
        have k3 : (H2.set 0 (.box (some 33) [a, b, c, d]))[1]? = some (rb s g2) := by rw [List.getElem?_set_ne (by decide)]; exact k2
        have f3 := all38g k3 (by omega) ok2 hm2
        have in3 := in_misc hm2 in2
        have k2l := (List.getElem?_eq_some_iff.1 k2).1
        have hset0 : ∀ b', (H2.set 0 b')[0]? = some b' := fun b' => List.getElem?_set_self z2l
        obtain ⟨H3, hH3⟩ : ∃ H3, H3 = (H2.set 0 (.box (some 33) [a, b, c, d])).set 1 (rb s g3) := ⟨_, rfl⟩
        rw [← hH3] at f3
        have k4 : H3[1]? = some (rb s g3) := by rw [hH3]; exact List.getElem?_set_self (by simpa using k2l)
        have k4' : H3[1]? = some (.box (some 66) [.pv (.str s), .i (g3.at' : Nat), .i (g3.n : Nat), .i (g3.e : Nat)]) := k4
        have z4 : H3[0]? = some (.box (some 33) [a, b, c, d]) := by rw [hH3, List.getElem?_set_ne (by decide)]; exact hset0 _
        have z4l := (List.getElem?_eq_some_iff.1 z4).1
        have hset3 : ∀ b', (H3.set 0 b')[0]? = some b' := fun b' => List.getElem?_set_self z4l
        clear hH3
        subst hn
        -- the end
        have fin0 : ∀ (H4 : List Blk) (g4 : Rd), g4.e = 0 → outR H4 (.tuple [.agg [a, b, c, d], .i 0, .i 0, .i 0]) = some (prsE s nd g4) := by
          intro H4 g4 h4
          unfold prsE
          rw [if_pos h4, encS_map]
          simp [-pcells, outR, outL, outP, p2]
        have fin1 : ∀ (H4 : List Blk) (g4 : Rd) (q : Int), g4.e ≠ 0 → q = Lib.lastIndexByte ⟨(s.take g4.at').toArray⟩ 10 → outR H4 (.tuple [.agg [.pv (.str []), .pv .nilSlice, .pv (.str []), .pv .nilSlice], .i (1 + (Lib.countByte (s.take g4.at') 10 : Nat)), .i ((g4.at' : Nat) - q), .i (g4.e : Nat)]) = some (prsE s nd g4) := by
          intro H4 g4 q h4 hq
          subst hq
          unfold prsE
          rw [if_neg h4]
          rfl
        have t3 : (g3.at' : Int) ≤ (s.length : Nat) := by omega
        have t3' : (0 : Int) ≤ (g3.at' : Nat) := by omega
        have cnt : Lib.countByte (s.take g3.at') 10 ≤ 4194304 := by
          have h1 : Lib.countByte (s.take g3.at') 10 ≤ (s.take g3.at').length := List.count_le_length
          rw [List.length_take] at h1; omega
        have lst : -1 ≤ Lib.lastIndexByte ⟨(s.take g3.at').toArray⟩ 10 ∧ Lib.lastIndexByte ⟨(s.take g3.at').toArray⟩ 10 ≤ 4194304 := by
          have hz : (⟨(s.take g3.at').toArray⟩ : ByteArray).size ≤ 4194304 := by
            have : (⟨(s.take g3.at').toArray⟩ : ByteArray).size = (s.take g3.at').length := by simp [ByteArray.size]
            rw [this, List.length_take]; omega
          unfold Lib.lastIndexByte
          rcases Lib.lastIdx_spec ⟨(s.take g3.at').toArray⟩ 10 (⟨(s.take g3.at').toArray⟩ : ByteArray).size with ⟨h, _⟩ | ⟨i, h1, h2, _⟩
          · rw [h]; decide
          · rw [h2]; omega
        have f6 : F40 [.str (s.take g3.at'), .str [10]] = some (.i (Lib.countByte (s.take g3.at') 10 : Nat)) := rfl
        have f7 : F41 [.str (s.take g3.at'), .pv (.int .u8 10)] = some (.i (Lib.lastIndexByte ⟨(s.take g3.at').toArray⟩ 10)) := by simp only [F41]; rw [if_pos (by rw [List.length_take]; omega)]
        by_cases e3 : g3.e = 0
        · have d3 : ((g3.e : Nat) : Int) = 0 := by omega
          by_cases a3 : g3.at' < s.length
          · have b3 : ((g3.at' : Nat) : Int) < (s.length : Nat) := by omega
            rw [if_pos ⟨e3, a3⟩] at hg
            have f4 : A37 [.ptr 1 0, .i (g3.at' : Nat), .i 13] H3 = some (.tuple [], H3.set 1 (rb s g)) := by rw [← hg]; exact all37 k4 g3.at' 13
            have ge : g = ⟨g3.at', g3.n, 13⟩ := by rw [← hg]; unfold Rd.fail; rw [if_pos e3]
            have k1l := (List.getElem?_eq_some_iff.1 k4).1
            have k5 : (H3.set 1 (rb s g))[1]? = some (.box (some 66) [.pv (.str s), .i (g3.at' : Nat), .i (g3.n : Nat), .i 13]) := by rw [ge]; exact List.getElem?_set_self k1l
            have z5 : (H3.set 1 (rb s g))[0]? = some (.box (some 33) [a, b, c, d]) := by rw [List.getElem?_set_ne (by decide)]; exact z4
            have hs5 : ∀ b', ((H3.set 1 (rb s g)).set 0 b')[0]? = some b' := fun b' => List.getElem?_set_self (by simpa using z4l)
            have fin := fun H4 q => fin1 H4 g q (by rw [ge]; exact (by decide : (13 : Nat) ≠ 0))
            have l5 : (H3.set 1 (rb s g)).length = H3.length := by simp
            have e13 : g.e = 13 := by rw [ge]
            have eat : g.at' = g3.at' := by rw [ge]
            have t4 : g3.at' ≤ s.length := in3
            rw [eat] at fin
            generalize Lib.countByte (s.take g3.at') 10 = ct at *
            generalize Lib.lastIndexByte ⟨(s.take g3.at').toArray⟩ 10 = lt at *
            have w1 : IntKind.i64.wrap (1 + (ct : Int)) = 1 + (ct : Int) := wrap64 (by omega) (by omega)
            have w2 : IntKind.i64.wrap ((g3.at' : Int) - lt) = (g3.at' : Int) - lt := wrap64 (by omega) (by omega)
            have l1 : (0 : Nat) < (H3.set 1 (rb s g)).length := by rw [l5]; exact z4l
            have l2 : (1 : Nat) < (H3.set 1 (rb s g)).length := by rw [l5]; exact k1l
            have fin := fin ((H3.set 1 (rb s g)).set 0 zeroN) lt rfl
            rw [e13] at fin
            generalize H3.set 1 (rb s g) = H5 at *
            simp [-Int.natCast_add, -Int.not_lt, -Int.not_le, -pcells, -outR, -getElem?_pos, List.getElem?_cons_zero, List.getElem?_cons_succ, T15_eq, c1, c1']
            refine X_keep (L _ _ _ ?_) (by simp)
            simp [-Int.natCast_add, -Int.not_lt, -Int.not_le, -pcells, -outR, -getElem?_pos, List.getElem?_cons_zero, List.getElem?_cons_succ, T15_eq, f1, f2, z2, z2l, f3, k4', d3, e3, b3, a3, beqZ, bneZ, z4, z4l, hset0, hset3, f4, k5, z5, hs5, l1, l2, t3, t3', t4, f6, f7, w1, w2]
            exact fin
          · have b3 : ¬ ((g3.at' : Nat) : Int) < (s.length : Nat) := by omega
            rw [if_neg (fun hh => a3 hh.2)] at hg
            subst hg
            have fin := fun H4 => fin0 H4 g3 e3
            simp [-Int.natCast_add, -Int.not_lt, -Int.not_le, -pcells, -outR, -getElem?_pos, List.getElem?_cons_zero, List.getElem?_cons_succ, T15_eq, c1, c1']
            refine X_keep (L _ _ _ ?_) (by simp)
            simp [-Int.natCast_add, -Int.not_lt, -Int.not_le, -pcells, -outR, -getElem?_pos, List.getElem?_cons_zero, List.getElem?_cons_succ, T15_eq, f1, f2, z2, z2l, f3, k4', d3, e3, b3, a3, beqZ, bneZ, z4, z4l, hset0, hset3]
            exact fin _
        · have d3 : ¬ ((g3.e : Nat) : Int) = 0 := by omega
          rw [if_neg (fun hh => e3 hh.1)] at hg
          subst hg
          have fin := fun H4 q => fin1 H4 g3 q e3
          have t4 : g3.at' ≤ s.length := in3
          have k1l := (List.getElem?_eq_some_iff.1 k4).1
          generalize Lib.countByte (s.take g3.at') 10 = ct at *
          generalize Lib.lastIndexByte ⟨(s.take g3.at').toArray⟩ 10 = lt at *
          have w1 : IntKind.i64.wrap (1 + (ct : Int)) = 1 + (ct : Int) := wrap64 (by omega) (by omega)
          have w2 : IntKind.i64.wrap ((g3.at' : Int) - lt) = (g3.at' : Int) - lt := wrap64 (by omega) (by omega)
          have fin := fin (H3.set 0 zeroN) lt rfl
          simp [-Int.natCast_add, -Int.not_lt, -Int.not_le, -pcells, -outR, -getElem?_pos, List.getElem?_cons_zero, List.getElem?_cons_succ, T15_eq, c1, c1']
          refine X_keep (L _ _ _ ?_) (by simp)
          simp [-Int.natCast_add, -Int.not_lt, -Int.not_le, -pcells, -outR, -getElem?_pos, List.getElem?_cons_zero, List.getElem?_cons_succ, T15_eq, f1, f2, z2, z2l, f3, k4', d3, e3, beqZ, bneZ, z4, z4l, k1l, hset0, hset3, t3, t3', t4, f6, f7, w1, w2]
          exact fin
noncomputable def F15 : List SV → Option SV
  | [.pv (.str s)] => if s.length ≤ 4194304 then (parseR s).map fun x => prsE s x.1 x.2 else none
  | _ => none
theorem F15_ok {s : Bs} {n : Nd} {g : Rd} (hs : s.length ≤ 4194304) (h : parseR s = some (n, g)) : F15 [.str s] = some (prsE s n g) := by
  simp only [F15]; rw [if_pos hs, h]; rfl
theorem meets15 {W0 : World} (L : Laid W0) : OkAt W0 15 F15 := meets_fn env (tok_cons (meets36 W0) (tok_cons (meets37 W0) (tok_cons (meets38g L) (tok_cons (meets39 L 40) (tok_cons (meets40 W0) (tok_cons (meets41 W0) tok_nil)))))) mixed Tryz.func15 (by kernel_rfl) (by kernel_rfl) fun args r h => by
  unfold F15 at h
  split at h
  · split at h
    · rename_i hc
      rw [Option.map_eq_some_iff] at h
      obtain ⟨⟨n, g⟩, h1, rfl⟩ := h
      exact x15 hc h1
    · cases h
  · cases h
end Go.Proofs.YtkckpmcpmngiiaaGreatDoor
