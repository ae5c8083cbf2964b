/- The acts, Open, and the law of streams, by the machine. -/
import Derived.Test.YtkbfgmneibabgaaDoorStmD
import Derived.Test.YtkbfgmneibabgaaDoorPmCut
set_option linter.unusedSimpArgs false
set_option linter.unusedVariables false
set_option maxRecDepth 1000000
set_option maxHeartbeats 2000000
namespace Go.Proofs.YtkbfgmneibabgaaDoor
open Go Go.Pm Go.RowKit
open LexP hiding place Sep Run
noncomputable def T36 : FuncId → Option Pm.Spec := tab [(25, .heap (arunAll Y T25 Tryd.f25)), (26, .heap (arunAll Y T26 Tryd.f26)), (28, .heap (arunAll Y T28 Tryd.f28)), (29, .heap (arunAll Y T26 Tryd.f29)), (30, .heap (arunAll Y T26 Tryd.f30)), (31, .heap (arunAll Y T31 Tryd.f31)), (32, .heap (arunAll Y T32 Tryd.f32)), (33, .heap (arunAll Y T32 Tryd.f33)), (34, .heap (arunAll Y T32 Tryd.f34)), (59, .heap (arunAll Y T0 Tryd.f59)), (60, .heap (arunAll Y T60 Tryd.f60)), (61, .heap (arunAll Y T0 Tryd.f61)), (62, .heap (arunAll Y T0 Tryd.f62)), (63, .heap (arunAll Y T63 Tryd.f63))]
theorem T36_eq (g : Nat) : T36 g = tab [(25, .heap (arunAll Y T25 Tryd.f25)), (26, .heap (arunAll Y T26 Tryd.f26)), (28, .heap (arunAll Y T28 Tryd.f28)), (29, .heap (arunAll Y T26 Tryd.f29)), (30, .heap (arunAll Y T26 Tryd.f30)), (31, .heap (arunAll Y T31 Tryd.f31)), (32, .heap (arunAll Y T32 Tryd.f32)), (33, .heap (arunAll Y T32 Tryd.f33)), (34, .heap (arunAll Y T32 Tryd.f34)), (59, .heap (arunAll Y T0 Tryd.f59)), (60, .heap (arunAll Y T60 Tryd.f60)), (61, .heap (arunAll Y T0 Tryd.f61)), (62, .heap (arunAll Y T0 Tryd.f62)), (63, .heap (arunAll Y T63 Tryd.f63))] g := rfl
theorem tok36 (W0 : World) : TOk Tryd.prog W0 T36 := tok_cons (meets25 W0) (tok_cons (meets26 W0) (tok_cons (meets28 W0) (tok_cons (meets29 W0) (tok_cons (meets30 W0) (tok_cons (meets31 W0) (tok_cons (meets32 W0) (tok_cons (meets33 W0) (tok_cons (meets34 W0) (tok_cons (meets59 W0) (tok_cons (meets60 W0) (tok_cons (meets61 W0) (tok_cons (meets62 W0) (tok_cons (meets63 W0) tok_nil)))))))))))))
theorem meets36 (W0 : World) : Enterable Tryd.prog 36 ∧ Meets Tryd.prog W0 36 (specFn (.heap (arunAll Y T36 Tryd.f36))) := meets_heap env (tok36 W0) mixed Tryd.func36 (by kernel_rfl) (by kernel_rfl)
/-- The stream, its model and the text. -/
structure W3 (s : Bs) (m : List Tk) (x : SV) (w v ks : Nat) (ty : Option TypeId) (Q : Qs) (H : List Blk) : Prop where
  M : Mdl m x Q
  P : Q.p ≤ s.length
  S : Str w (sto s m Q) H
  V : Mod v x Q H
  K : H[ks]? = some (.box ty [.str s])
/-- What does not change. -/
structure Fx (s : Bs) (m : List Tk) (w v ks : Nat) : Prop where
  E : Ends m
  len : s.length ≤ 10000000
  pos : ∀ t ∈ m, t.pos ≤ s.length
  wv : w ≠ v
  kw : ks ≠ w
  kv : ks ≠ v
theorem getW {w j : Nat} {G H : List Blk} {b : Blk} (h : G[j]? = some b) (f : FrameW w G H) (hn : j ≠ w) : H[j]? = some b := by
  rw [f.2 j (List.getElem?_eq_some_iff.1 h).1 hn]; exact h
theorem getA {j : Nat} {G : List Blk} {b : Blk} (h : G[j]? = some b) (l : List Blk) : (G ++ l)[j]? = some b := by
  rw [List.getElem?_append_left (List.getElem?_eq_some_iff.1 h).1]; exact h
theorem W3.app {s : Bs} {m : List Tk} {x : SV} {w v ks : Nat} {ty : Option TypeId} {Q : Qs} {H : List Blk} (h : W3 s m x w v ks ty Q H) (l : List Blk) : W3 s m x w v ks ty Q (H ++ l) :=
  ⟨h.M, h.P, h.S.app l, h.V.app l, getA h.K l⟩
theorem adv_p {n : Nat} {m : List Tk} {Q : Qs} (h : Q.p ≤ n) : (adv m Q).p ≤ n := by unfold adv; split <;> exact h
theorem fail_p {s : Bs} {m : List Tk} {x : SV} {w v ks : Nat} {Q : Qs} (F : Fx s m w v ks) (M : Mdl m x Q) (h : Q.p ≤ s.length) (k : Int) : (failQ m Q k).p ≤ s.length := by
  unfold failQ
  split
  · rename_i hc
    have ha := M.at_ hc.1
    have hn : nx m Q = m[Q.a] := by simp [nx, hc.1, ha]
    show (nx m Q).pos ≤ s.length
    rw [hn]; exact F.pos _ (List.getElem_mem ha)
  · exact h
theorem kind_p {s : Bs} {m : List Tk} {x : SV} {w v ks : Nat} {Q : Qs} (F : Fx s m w v ks) (M : Mdl m x Q) (h : Q.p ≤ s.length) (k : Int) : (kindQ m Q k).p ≤ s.length := by
  unfold kindQ
  split
  · exact adv_p h
  · exact fail_p F M h 13
/-- A call on the stream, and one on the model behind it. -/
theorem frameC_w3 {w n : Nat} {H H' : List Blk} {v : SV} (h1 : n ≤ H.length) (h2 : FrameW w H H') : frameC w n H (some (v, H')) = some (v, H') := frameC_some (.inr ⟨h1, h2⟩)
abbrev opB (k : Int) (tx : Bs) (lo hi c : Int) : Blk := .box (some 58) [.int .u8 k, .str tx, .i lo, .i hi, .int .u8 c]
abbrev Good36 (s : Bs) (m : List Tk) (x : SV) (w v ks : Nat) (ty : Option TypeId) : SV × List Blk → Prop := fun y => ∃ H' Q', y = (.bool true, H') ∧ W3 s m x w v ks ty Q' H'
theorem is_w {s : Bs} {m : List Tk} {x : SV} {Q : Qs} (M : Mdl m x Q) (tx : Bs) : (sto s m Q).is tx = (decide (Q.e = 0) && ((decide ((nx m Q).kind = 1) || decide ((nx m Q).kind = 4)) && decide ((nx m Q).text = tx))) := by
  unfold St.is
  rw [sto_peek M.at_]
  unfold pk
  by_cases he : Q.e = 0
  · simp [he, tp]
  · simp [he, zTp]
/-- What lies behind the head of 'do'. -/
noncomputable def tl36 : Code := Hold (restN 3 (Tryd.f36.body.getD .skip))
section
variable {s : Bs} {m : List Tk} {x : SV} {w v ks : Nat} {ty : Option TypeId} {Q : Qs} {G : List Blk} {i j : Nat} {tx : Bs} {lo hi c : Int} {k : Nat} {wB : Bool}
theorem c0 (F : Fx s m w v ks) (h : W3 s m x w v ks ty Q G) (hi_ : G[i]? = some (opB k tx lo hi c)) (hj : G[j]? = some (.box (some 38) ((rfC (nx m Q)).map .pv))) (iw : i ≠ w) (iv : i ≠ v) (jw : j ≠ w) (jv : j ≠ v) (hk : (k : Int).tmod 9 = 0) :
    X Y T36 [.tmp 8] [] tl36 ⟨mk 181 .J [(0, .ptr w 0), (1, .ptr v 0), (3, .ptr ks 0), (6, .ptr i 0), (9, .ptr j 0), (10, .bool wB)], G⟩ (Good36 s m x w v ks ty) := by
  obtain ⟨d, e25⟩ := all25 h.S
  rw [sto_peek h.M.at_] at e25
  obtain ⟨l, e60⟩ := all60 h.M (h.V.app [d]) (getA h.K [d]) F.len F.pos
  have fin := h.app ([d] ++ l)
  have gj := fun l => getA hj l
  have hjl := (List.getElem?_eq_some_iff.1 hj).1
  have q25 : ∀ u, frameC w G.length G (some (u, G ++ [d])) = some (u, G ++ [d]) := fun u => frameC_w3 (Nat.le_refl _) (FrameW.app w G [d])
  generalize nx m Q = t at *
  generalize pk s m Q = p at *
  have q60 : ∀ u, frameC w G.length (G ++ [d]) (some (u, G ++ d :: l)) = some (u, G ++ d :: l) := fun u => frameC_w3 (by simp) (by have := FrameW.app w (G ++ [d]) l; rwa [List.append_assoc] at this)
  unfold rfC Tp.sv at *
  simp only [List.append_assoc, List.map_cons, List.map_nil] at e60 gj
  unfold tl36 Hold Tryd.f36
  simp only [restN, Option.getD_some]
  simp [-getElem?_pos, List.getElem?_cons_zero, List.getElem?_cons_succ, hi_, hk, T36_eq, e25, q25, q60, gj, jw, hjl, e60,  loadW_ptr, aopP_callW]
  exact ⟨_, _, rfl, fin⟩
theorem c2 (F : Fx s m w v ks) (h : W3 s m x w v ks ty Q G) (hi_ : G[i]? = some (opB k tx lo hi c)) (hj : G[j]? = some (.box (some 38) ((rfC (nx m Q)).map .pv))) (iw : i ≠ w) (iv : i ≠ v) (jw : j ≠ w) (jv : j ≠ v) (hw : wB = (decide (Q.e = 0) && ((decide ((nx m Q).kind = 1) || decide ((nx m Q).kind = 4)) && decide ((nx m Q).text = tx)))) (hk : (k : Int).tmod 9 = 2) :
    X Y T36 [.tmp 8] [] tl36 ⟨mk 181 .J [(0, .ptr w 0), (1, .ptr v 0), (3, .ptr ks 0), (6, .ptr i 0), (9, .ptr j 0), (10, .bool wB)], G⟩ (Good36 s m x w v ks ty) := by
  obtain ⟨l, e30⟩ := all30 h.S tx
  rw [is_w h.M, ← hw] at e30
  have fin := h.app l
  clear hw
  unfold tl36 Hold Tryd.f36
  simp only [restN, Option.getD_some]
  simp [-getElem?_pos, List.getElem?_cons_zero, List.getElem?_cons_succ, hi_, hk, T36_eq, e30]
  exact ⟨_, _, rfl, fin⟩
theorem c3 (F : Fx s m w v ks) (h : W3 s m x w v ks ty Q G) (hi_ : G[i]? = some (opB k tx lo hi c)) (hj : G[j]? = some (.box (some 38) ((rfC (nx m Q)).map .pv))) (iw : i ≠ w) (iv : i ≠ v) (jw : j ≠ w) (jv : j ≠ v) (hw : wB = (decide (Q.e = 0) && ((decide ((nx m Q).kind = 1) || decide ((nx m Q).kind = 4)) && decide ((nx m Q).text = tx)))) (hk : (k : Int).tmod 9 = 3) :
    X Y T36 [.tmp 8] [] tl36 ⟨mk 181 .J [(0, .ptr w 0), (1, .ptr v 0), (3, .ptr ks 0), (6, .ptr i 0), (9, .ptr j 0), (10, .bool wB)], G⟩ (Good36 s m x w v ks ty) := by
  have hi2 := is_w h.M tx (s := s)
  rw [← hw] at hi2
  clear hw
  cases wB with
  | true =>
    obtain ⟨G1, e61, v1, f1⟩ := all61 h.M h.V
    have s1 := h.S.fr f1 F.wv
    have k1 := getW h.K f1 F.kv
    have g1 := getW hi_ f1 iv
    obtain ⟨G2, e31, s2, f2⟩ := all31 s1 tx
    rw [hi2] at e31
    have ha : (sto s m Q).acc tx = sto s m (adv m Q) := by unfold St.acc; rw [if_pos hi2, sto_nxt F.E h.M.at_]
    rw [ha] at s2
    have fin : W3 s m x w v ks ty (adv m Q) G2 := ⟨h.M.adv F.E, adv_p h.P, s2, v1.fr f2 F.wv.symm, getW k1 f2 F.kw⟩
    unfold tl36 Hold Tryd.f36
    simp only [restN, Option.getD_some]
    simp [-getElem?_pos, List.getElem?_cons_zero, List.getElem?_cons_succ, hi_, hk, T36_eq, e61, g1, e31]
    exact ⟨_, _, rfl, fin⟩
  | false =>
    obtain ⟨G2, e31, s2, f2⟩ := all31 h.S tx
    rw [hi2] at e31
    have ha : (sto s m Q).acc tx = sto s m Q := by unfold St.acc; rw [if_neg (by rw [hi2]; simp)]
    rw [ha] at s2
    have fin : W3 s m x w v ks ty Q G2 := ⟨h.M, h.P, s2, h.V.fr f2 F.wv.symm, getW h.K f2 F.kw⟩
    unfold tl36 Hold Tryd.f36
    simp only [restN, Option.getD_some]
    simp [-getElem?_pos, List.getElem?_cons_zero, List.getElem?_cons_succ, hi_, hk, T36_eq, e31]
    exact ⟨_, _, rfl, fin⟩
theorem c4 (F : Fx s m w v ks) (h : W3 s m x w v ks ty Q G) (hi_ : G[i]? = some (opB k tx lo hi c)) (hj : G[j]? = some (.box (some 38) ((rfC (nx m Q)).map .pv))) (iw : i ≠ w) (iv : i ≠ v) (jw : j ≠ w) (jv : j ≠ v) (hw : wB = (decide (Q.e = 0) && ((decide ((nx m Q).kind = 1) || decide ((nx m Q).kind = 4)) && decide ((nx m Q).text = tx)))) (hk : (k : Int).tmod 9 = 4) :
    X Y T36 [.tmp 8] [] tl36 ⟨mk 181 .J [(0, .ptr w 0), (1, .ptr v 0), (3, .ptr ks 0), (6, .ptr i 0), (9, .ptr j 0), (10, .bool wB)], G⟩ (Good36 s m x w v ks ty) := by
  have hi2 := is_w h.M tx (s := s)
  rw [← hw] at hi2
  clear hw
  obtain ⟨G1, e28, s1, f1⟩ := all28 h.S tx
  have v1 := h.V.fr f1 F.wv.symm
  have k1 := getW h.K f1 F.kw
  cases wB with
  | true =>
    obtain ⟨G2, e61, v2, f2⟩ := all61 h.M v1
    have ha : (sto s m Q).expect tx = sto s m (adv m Q) := by unfold St.expect; rw [if_pos hi2, sto_nxt F.E h.M.at_]
    rw [ha] at s1
    have fin : W3 s m x w v ks ty (adv m Q) G2 := ⟨h.M.adv F.E, adv_p h.P, s1.fr f2 F.wv, v2, getW k1 f2 F.kv⟩
    unfold tl36 Hold Tryd.f36
    simp only [restN, Option.getD_some]
    simp [-getElem?_pos, List.getElem?_cons_zero, List.getElem?_cons_succ, hi_, hk, T36_eq, e61, e28]
    exact ⟨_, _, rfl, fin⟩
  | false =>
    obtain ⟨G2, e62, v2, f2⟩ := all62 h.M v1 13
    have ha : (sto s m Q).expect tx = sto s m (failQ m Q 13) := by unfold St.expect; rw [if_neg (by rw [hi2]; simp), sto_fail h.M.at_]
    rw [ha] at s1
    have fin : W3 s m x w v ks ty (failQ m Q 13) G2 := ⟨h.M.fail 13, fail_p F h.M h.P 13, s1.fr f2 F.wv, v2, getW k1 f2 F.kv⟩
    unfold tl36 Hold Tryd.f36
    simp only [restN, Option.getD_some]
    simp [-getElem?_pos, List.getElem?_cons_zero, List.getElem?_cons_succ, hi_, hk, T36_eq, e62, e28]
    exact ⟨_, _, rfl, fin⟩
theorem c5 (F : Fx s m w v ks) (h : W3 s m x w v ks ty Q G) (hi_ : G[i]? = some (opB k tx lo hi c)) (hj : G[j]? = some (.box (some 38) ((rfC (nx m Q)).map .pv))) (iw : i ≠ w) (iv : i ≠ v) (jw : j ≠ w) (jv : j ≠ v) (hk : (k : Int).tmod 9 = 5) :
    X Y T36 [.tmp 8] [] tl36 ⟨mk 181 .J [(0, .ptr w 0), (1, .ptr v 0), (3, .ptr ks 0), (6, .ptr i 0), (9, .ptr j 0), (10, .bool wB)], G⟩ (Good36 s m x w v ks ty) := by
  obtain ⟨G1, b, e63, v1, f1⟩ := all63 h.M h.V 1
  have s1 := h.S.fr f1 F.wv
  have k1 := getW h.K f1 F.kv
  obtain ⟨f, hf⟩ := Classical.axiomOfChoice (fun l => all32 (s1.app l))
  have ee := fun l => (hf l).1
  have ht := takeR_tx (s := s) h.M.at_ (k := 1) (by decide)
  rw [ht.1] at ee
  have hS := sto_takeS (s := s) F.E h.M.at_ (k := 1) (by decide)
  have fin : ∀ z, W3 s m x w v ks ty (kindQ m Q 1) (f [z]) := fun z => by
    have := (hf [z]).2
    rw [hS] at this
    exact ⟨h.M.kind F.E 1, kind_p F h.M h.P 1, this.1, (v1.app [z]).fr this.2 F.wv.symm, getW (getA k1 [z]) this.2 F.kw⟩
  have hl1 : w < G1.length := s1.lt
  have gz : ∀ z, (f [z])[G1.length]? = some z := fun z => getW (ga0 rfl z []) (hf [z]).2.2 (by omega)
  have qq : ∀ u z, frameC w (G1.length + 1) (G1 ++ [z]) (some (u, f [z])) = some (u, f [z]) := fun u z => frameC_w3 (by simp) (hf [z]).2.2
  have gn : ¬ G1.length = w := by omega
  clear hf ht hS
  generalize kindR m Q 1 = t at *
  generalize kindQ m Q 1 = Q2 at *
  unfold rfC at e63
  unfold tl36 Hold Tryd.f36
  simp only [restN, Option.getD_some]
  simp [-getElem?_pos, List.getElem?_cons_zero, List.getElem?_cons_succ, hi_, hk, T36_eq, e63, ee, gz, qq, gn, ga0, sa0, loadW_ptr, aopP_callW]
  exact ⟨_, _, rfl, fin _⟩
theorem c7 (F : Fx s m w v ks) (h : W3 s m x w v ks ty Q G) (hi_ : G[i]? = some (opB k tx lo hi c)) (hj : G[j]? = some (.box (some 38) ((rfC (nx m Q)).map .pv))) (iw : i ≠ w) (iv : i ≠ v) (jw : j ≠ w) (jv : j ≠ v) (hk : (k : Int).tmod 9 = 7) :
    X Y T36 [.tmp 8] [] tl36 ⟨mk 181 .J [(0, .ptr w 0), (1, .ptr v 0), (3, .ptr ks 0), (6, .ptr i 0), (9, .ptr j 0), (10, .bool wB)], G⟩ (Good36 s m x w v ks ty) := by
  obtain ⟨G1, b, e63, v1, f1⟩ := all63 h.M h.V 3
  have s1 := h.S.fr f1 F.wv
  have k1 := getW h.K f1 F.kv
  obtain ⟨f, hf⟩ := Classical.axiomOfChoice (fun l => all34 (s1.app l))
  have ee := fun l => (hf l).1
  have ht := takeR_tx (s := s) h.M.at_ (k := 3) (by decide)
  rw [ht.2.2] at ee
  have hS := sto_takeS (s := s) F.E h.M.at_ (k := 3) (by decide)
  have fin : ∀ z, W3 s m x w v ks ty (kindQ m Q 3) (f [z]) := fun z => by
    have := (hf [z]).2
    rw [hS] at this
    exact ⟨h.M.kind F.E 3, kind_p F h.M h.P 3, this.1, (v1.app [z]).fr this.2 F.wv.symm, getW (getA k1 [z]) this.2 F.kw⟩
  have hl1 : w < G1.length := s1.lt
  have gz : ∀ z, (f [z])[G1.length]? = some z := fun z => getW (ga0 rfl z []) (hf [z]).2.2 (by omega)
  have qq : ∀ u z, frameC w (G1.length + 1) (G1 ++ [z]) (some (u, f [z])) = some (u, f [z]) := fun u z => frameC_w3 (by simp) (hf [z]).2.2
  have gn : ¬ G1.length = w := by omega
  clear hf ht hS
  generalize kindR m Q 3 = t at *
  generalize kindQ m Q 3 = Q2 at *
  unfold rfC at e63
  unfold tl36 Hold Tryd.f36
  simp only [restN, Option.getD_some]
  simp [-getElem?_pos, List.getElem?_cons_zero, List.getElem?_cons_succ, hi_, hk, T36_eq, e63, ee, gz, qq, gn, ga0, sa0, loadW_ptr, aopP_callW]
  exact ⟨_, _, rfl, fin _⟩
theorem c8 (F : Fx s m w v ks) (h : W3 s m x w v ks ty Q G) (hi_ : G[i]? = some (opB k tx lo hi c)) (hj : G[j]? = some (.box (some 38) ((rfC (nx m Q)).map .pv))) (iw : i ≠ w) (iv : i ≠ v) (jw : j ≠ w) (jv : j ≠ v) (hk : (k : Int).tmod 9 = 8) :
    X Y T36 [.tmp 8] [] tl36 ⟨mk 181 .J [(0, .ptr w 0), (1, .ptr v 0), (3, .ptr ks 0), (6, .ptr i 0), (9, .ptr j 0), (10, .bool wB)], G⟩ (Good36 s m x w v ks ty) := by
  obtain ⟨f, hf⟩ := Classical.axiomOfChoice (fun K => all29 h.S K)
  have v1 := fun K => h.V.fr (hf K).2.2 F.wv.symm
  have k1 := fun K => getW h.K (hf K).2.2 F.kw
  have gi := fun K => getW hi_ (hf K).2.2 iw
  obtain ⟨g, hg⟩ := Classical.axiomOfChoice (fun K => all62 h.M (v1 K) K)
  have e29 := fun K => (hf K).1
  have e62 := fun K => (hg K).1
  have fin : ∀ K, W3 s m x w v ks ty (failQ m Q K) (g K) := fun K => by
    have s1 := (hf K).2.1
    rw [sto_fail h.M.at_] at s1
    exact ⟨h.M.fail K, fail_p F h.M h.P K, s1.fr (hg K).2.2 F.wv, (hg K).2.1, getW (k1 K) (hg K).2.2 F.kv⟩
  clear hf hg
  unfold tl36 Hold Tryd.f36
  simp only [restN, Option.getD_some]
  simp [-getElem?_pos, List.getElem?_cons_zero, List.getElem?_cons_succ, hi_, hk, T36_eq, e29, e62, gi]
  exact ⟨_, _, rfl, fin _⟩
theorem c6 (F : Fx s m w v ks) (h : W3 s m x w v ks ty Q G) (hi_ : G[i]? = some (opB k tx lo hi c)) (hj : G[j]? = some (.box (some 38) ((rfC (nx m Q)).map .pv))) (iw : i ≠ w) (iv : i ≠ v) (jw : j ≠ w) (jv : j ≠ v) (hk : (k : Int).tmod 9 = 6) :
    X Y T36 [.tmp 8] [] tl36 ⟨mk 181 .J [(0, .ptr w 0), (1, .ptr v 0), (3, .ptr ks 0), (6, .ptr i 0), (9, .ptr j 0), (10, .bool wB)], G⟩ (Good36 s m x w v ks ty) := by
  have ho : (sto s m Q).out lo hi = (decide (Q.e = 0) && (decide ((nx m Q).kind = 2) && (decide ((nx m Q).val < lo) || decide (hi < (nx m Q).val)))) := by
    unfold St.out
    rw [sto_peek h.M.at_]
    unfold pk
    by_cases he : Q.e = 0
    · simp [he, tp]
    · simp [he, zTp]
  have g0 : G[v]? = some (.box (some 68) [x, .i Q.a, .i Q.e, .i Q.p]) := h.V
  cases hB : (sto s m Q).out lo hi with
  | true =>
    have hc : Q.e = 0 ∧ (nx m Q).kind = 2 ∧ ((nx m Q).val < lo ∨ hi < (nx m Q).val) := by rw [hB] at ho; simpa using ho.symm
    obtain ⟨he, hk2, hv⟩ := hc
    obtain ⟨G1, e62, v1, f1⟩ := all62 h.M h.V 2
    have s1 := h.S.fr f1 F.wv
    have k1 := getW h.K f1 F.kv
    have gi := getW hi_ f1 iv
    obtain ⟨G2, e33, s2, f2⟩ := all33 s1 lo hi
    rw [hB] at e33 s2
    simp only [if_true] at e33 s2
    rw [sto_fail h.M.at_] at s2
    have fin : W3 s m x w v ks ty (failQ m Q 2) G2 := ⟨h.M.fail 2, fail_p F h.M h.P 2, s2, v1.fr f2 F.wv.symm, getW k1 f2 F.kw⟩
    generalize failQ m Q 2 = Q2 at *
    clear ho hB s1 s2 v1
    generalize nx m Q = t at *
    unfold rfC at hj
    simp only [List.map_cons, List.map_nil] at hj
    unfold tl36 Hold Tryd.f36
    simp only [restN, Option.getD_some]
    by_cases h1 : t.val < lo
    · simp [-Int.not_lt, -Int.not_le, -getElem?_pos, List.getElem?_cons_zero, List.getElem?_cons_succ, hi_, hk, T36_eq, g0, he, hj, hk2, h1, e62, gi, e33]
      exact ⟨_, _, rfl, fin⟩
    · have h2 : hi < t.val := by rcases hv with h | h; exact absurd h h1; exact h
      simp [-Int.not_lt, -Int.not_le, -getElem?_pos, List.getElem?_cons_zero, List.getElem?_cons_succ, hi_, hk, T36_eq, g0, he, hj, hk2, h1, h2, e62, gi, e33]
      exact ⟨_, _, rfl, fin⟩
  | false =>
    have hc : ¬ (Q.e = 0 ∧ (nx m Q).kind = 2 ∧ ((nx m Q).val < lo ∨ hi < (nx m Q).val)) := by rw [hB] at ho; intro e; simp [e] at ho; obtain ⟨_, _, e⟩ := e; omega
    obtain ⟨G1, b, e63, v1, f1⟩ := all63 h.M h.V 2
    have s1 := h.S.fr f1 F.wv
    have k1 := getW h.K f1 F.kv
    have gi := getW hi_ f1 iv
    obtain ⟨f, hf⟩ := Classical.axiomOfChoice (fun l => all33 (s1.app l) lo hi)
    have ee := fun l => (hf l).1
    have ht := takeR_tx (s := s) h.M.at_ (k := 2) (by decide)
    rw [hB] at ee hf
    simp only [Bool.false_eq_true, if_false] at ee hf
    rw [ht.2.1] at ee
    have hS := sto_takeS (s := s) F.E h.M.at_ (k := 2) (by decide)
    have fin : ∀ z, W3 s m x w v ks ty (kindQ m Q 2) (f [z]) := fun z => by
      have := (hf [z]).2
      rw [hS] at this
      exact ⟨h.M.kind F.E 2, kind_p F h.M h.P 2, this.1, (v1.app [z]).fr this.2 F.wv.symm, getW (getA k1 [z]) this.2 F.kw⟩
    have hl1 : w < G1.length := s1.lt
    have gz : ∀ z, (f [z])[G1.length]? = some z := fun z => getW (ga0 rfl z []) (hf [z]).2.2 (by omega)
    have qq : ∀ u z, frameC w (G1.length + 1) (G1 ++ [z]) (some (u, f [z])) = some (u, f [z]) := fun u z => frameC_w3 (by simp) (hf [z]).2.2
    have gn : ¬ G1.length = w := by omega
    have gi2 : ∀ l, (G1 ++ l)[i]? = some (opB k tx lo hi c) := fun l => getA gi l
    have gi3 : ∀ z, (f [z])[i]? = some (opB k tx lo hi c) := fun z => getW (gi2 [z]) (hf [z]).2.2 iw
    have gil : i < G1.length := (List.getElem?_eq_some_iff.1 gi).1
    have gil2 : i < G1.length + 1 := by omega
    clear hf ht hS ho hB s1 v1
    generalize kindR m Q 2 = r at *
    generalize kindQ m Q 2 = Q2 at *
    generalize nx m Q = t at *
    unfold rfC at e63 hj
    simp only [List.map_cons, List.map_nil] at hj
    unfold tl36 Hold Tryd.f36
    simp only [restN, Option.getD_some]
    by_cases he : Q.e = 0
    · by_cases hk2 : t.kind = 2
      · have h1 : ¬ t.val < lo := fun e => hc ⟨he, hk2, .inl e⟩
        have h2 : ¬ hi < t.val := fun e => hc ⟨he, hk2, .inr e⟩
        simp [-Int.not_lt, -Int.not_le, -getElem?_pos, List.getElem?_cons_zero, List.getElem?_cons_succ, hi_, hk, T36_eq, g0, he, hj, hk2, h1, h2, e63, ee, gz, qq, gn, gi2, gi3, gil, gil2, iw, ga0, sa0, loadW_ptr, aopP_callW]
        exact ⟨_, _, rfl, fin _⟩
      · simp [-Int.not_lt, -Int.not_le, -getElem?_pos, List.getElem?_cons_zero, List.getElem?_cons_succ, hi_, hk, T36_eq, g0, he, hj, hk2, e63, ee, gz, qq, gn, gi2, gi3, gil, gil2, iw, ga0, sa0, loadW_ptr, aopP_callW]
        exact ⟨_, _, rfl, fin _⟩
    · simp [-Int.not_lt, -Int.not_le, -getElem?_pos, List.getElem?_cons_zero, List.getElem?_cons_succ, hi_, hk, T36_eq, g0, he, hj, e63, ee, gz, qq, gn, gi2, gi3, gil, gil2, iw, ga0, sa0, loadW_ptr, aopP_callW]
      exact ⟨_, _, rfl, fin _⟩
theorem c1 (F : Fx s m w v ks) (h : W3 s m x w v ks ty Q G) (hi_ : G[i]? = some (opB k tx lo hi c)) (hj : G[j]? = some (.box (some 38) ((rfC (nx m Q)).map .pv))) (iw : i ≠ w) (iv : i ≠ v) (jw : j ≠ w) (jv : j ≠ v) (hk : (k : Int).tmod 9 = 1) :
    X Y T36 [.tmp 8] [] tl36 ⟨mk 181 .J [(0, .ptr w 0), (1, .ptr v 0), (3, .ptr ks 0), (6, .ptr i 0), (9, .ptr j 0), (10, .bool wB)], G⟩ (Good36 s m x w v ks ty) := by
  obtain ⟨H4, e26, s4, f4⟩ := all26 h.S
  rw [sto_peek h.M.at_] at e26
  rw [sto_nxt F.E h.M.at_] at s4
  have v4 := h.V.fr f4 F.wv.symm
  have k4 := getW h.K f4 F.kw
  have j4 := getW hj f4 jw
  obtain ⟨f, hf⟩ := Classical.axiomOfChoice (fun l => all61 h.M (v4.app l))
  have e61 := fun l => (hf l).1
  have hlv : v < H4.length := v4.lt
  have hlj : j < H4.length := (List.getElem?_eq_some_iff.1 j4).1
  have g4 : ∀ l, (H4 ++ l)[v]? = some (.box (some 68) [x, .i Q.a, .i Q.e, .i Q.p]) := fun l => v4.app l
  have gp : ∀ a b, (f [a, b])[H4.length]? = some a := fun a b => getW (ga0 rfl a [b]) (hf [a, b]).2.2 (by omega)
  have gj : ∀ a b, (f [a, b])[j]? = some (.box (some 38) ((rfC (nx m Q)).map .pv)) := fun a b => getW (getA j4 [a, b]) (hf [a, b]).2.2 jv
  have h60 : ∀ a, ∃ l, arunAll Y T60 Tryd.f60 [(pk s m Q).sv, .agg ((rfC (nx m Q)).map .pv), .ptr (H4.length + 1) 0, .ptr ks 0] (f [a, .box (some 68) [x, .i Q.a, .i Q.e, .i Q.p]]) = some (.bool true, f [a, .box (some 68) [x, .i Q.a, .i Q.e, .i Q.p]] ++ l) := fun a =>
    all60 h.M (show Mod (H4.length + 1) x Q _ from getW (ga1 rfl a _ []) (hf [a, _]).2.2 (by omega)) (getW (getA k4 [a, _]) (hf [a, _]).2.2 F.kv) F.len F.pos
  obtain ⟨g, e60⟩ := Classical.axiomOfChoice h60
  have fin : ∀ a b l, W3 s m x w v ks ty (adv m Q) (f [a, b] ++ l) := fun a b l =>
    W3.app ⟨h.M.adv F.E, adv_p h.P, (s4.app [a, b]).fr (hf [a, b]).2.2 F.wv, (hf [a, b]).2.1, getW (getA k4 [a, b]) (hf [a, b]).2.2 F.kv⟩ l
  have hcx := h.M.row.cells
  have hlx := h.M.row.live
  clear hf h60
  generalize adv m Q = Q2 at *
  generalize nx m Q = t at *
  generalize pk s m Q = p at *
  unfold rfC Tp.sv at *
  simp only [List.map_cons, List.map_nil] at e60 gj
  unfold tl36 Hold Tryd.f36
  simp only [restN, Option.getD_some]
  simp [-cellsOf, cells_pv, cells_agg, cells_ptr, -getElem?_pos, List.getElem?_cons_zero, List.getElem?_cons_succ, hi_, hk, T36_eq, e26, e61, e60, g4, gp, gj, hcx, hlx, ga0, ga1, sa0, sa1]
  exact ⟨_, _, rfl, fin _ _ _⟩
end
end Go.Proofs.YtkbfgmneibabgaaDoor
namespace Go.Proofs.YtkbfgmneibabgaaDoor
open Go Go.Pm Go.RowKit
open LexP hiding place Sep Run
theorem all36 {s : Bs} {m : List Tk} {x : SV} {w v ks : Nat} {ty : Option TypeId} {Q : Qs} {H : List Blk} (F : Fx s m w v ks) (h : W3 s m x w v ks ty Q H) (k : Nat) (tx : Bs) (lo hi c : Int) :
    ∃ H' Q', arunAll Y T36 Tryd.f36 [.ptr w 0, .ptr v 0, .agg [.int .u8 k, .str tx, .i lo, .i hi, .int .u8 c], .ptr ks 0] H = some (.bool true, H') ∧ W3 s m x w v ks ty Q' H' := by
  obtain ⟨b, e59⟩ := all59 h.M (h.V.app [opB k tx lo hi c])
  have e59 : arunAll Y T0 Tryd.f59 [.ptr v 0] (H ++ [opB k tx lo hi c]) = some (.agg ((rfC (nx m Q)).map .pv), H ++ [opB k tx lo hi c, b]) := by simpa using e59
  have hg := h.app [opB k tx lo hi c, b, .box (some 38) ((rfC (nx m Q)).map .pv)]
  have wl := h.S.lt
  have vl := h.V.lt
  have hmod : (k : Int).tmod 9 = ((k % 9 : Nat) : Int) := by rw [Int.tmod_eq_emod_of_nonneg (by omega)]; rfl
  have g0 : ∀ l, (H ++ l)[v]? = some (.box (some 68) [x, .i Q.a, .i Q.e, .i Q.p]) := fun l => h.V.app l
  have hst : ∀ wB, wB = (decide (Q.e = 0) && ((decide ((nx m Q).kind = 1) || decide ((nx m Q).kind = 4)) && decide ((nx m Q).text = tx))) →
      X Y T36 [.tmp 8] [] tl36 ⟨mk 181 .J [(0, .ptr w 0), (1, .ptr v 0), (3, .ptr ks 0), (6, .ptr H.length 0), (9, .ptr (H.length + 2) 0), (10, .bool wB)], H ++ [opB k tx lo hi c, b, .box (some 38) ((rfC (nx m Q)).map .pv)]⟩ (Good36 s m x w v ks ty) := fun wB hw => by
    have hi_ := ga0 (G := H) rfl (opB k tx lo hi c) [b, .box (some 38) ((rfC (nx m Q)).map .pv)]
    have hj := ga2 (G := H) rfl (opB k tx lo hi c) b (.box (some 38) ((rfC (nx m Q)).map .pv)) []
    have q9 : k % 9 < 9 := by omega
    have iw : H.length ≠ w := by omega
    have iv : H.length ≠ v := by omega
    have jw : H.length + 2 ≠ w := by omega
    have jv : H.length + 2 ≠ v := by omega
    generalize k % 9 = q at *
    rcases (by omega : q = 0 ∨ q = 1 ∨ q = 2 ∨ q = 3 ∨ q = 4 ∨ q = 5 ∨ q = 6 ∨ q = 7 ∨ q = 8) with rfl | rfl | rfl | rfl | rfl | rfl | rfl | rfl | rfl
    · exact c0 F hg hi_ hj iw iv jw jv hmod
    · exact c1 F hg hi_ hj iw iv jw jv hmod
    · exact c2 F hg hi_ hj iw iv jw jv hw hmod
    · exact c3 F hg hi_ hj iw iv jw jv hw hmod
    · exact c4 F hg hi_ hj iw iv jw jv hw hmod
    · exact c5 F hg hi_ hj iw iv jw jv hmod
    · exact c6 F hg hi_ hj iw iv jw jv hmod
    · exact c7 F hg hi_ hj iw iv jw jv hmod
    · exact c8 F hg hi_ hj iw iv jw jv hmod
  have hx : XFn Y T36 Tryd.f36 [.ptr w 0, .ptr v 0, .agg [.int .u8 k, .str tx, .i lo, .i hi, .int .u8 c], .ptr ks 0] H (Good36 s m x w v ks ty) := by
    unfold XFn
    rw [enter_4 _ (by decide)]
    refine X_cut 3 ?_
    rw [show Hold (restN 3 (Tryd.f36.body.getD .skip)) = tl36 from rfl]
    clear hg hmod
    generalize tl36 = tl at *
    generalize Good36 s m x w v ks ty = P at *
    generalize nx m Q = t at *
    unfold rfC at e59 hst
    simp only [List.map_cons, List.map_nil] at e59 hst
    unfold opB at e59 hst
    unfold Tryd.f36
    simp only [glue, Option.getD_some]
    by_cases he : Q.e = 0
    · by_cases h1 : t.kind = 1
      · by_cases h2 : t.text = tx
        · simp [-getElem?_pos, List.getElem?_cons_zero, List.getElem?_cons_succ, T36_eq, e59, g0, he, h1, h2, ga0, ga1, ga2, sa0, sa1, sa2]
          have hst := hst true (by simp [he, h1, h2])
          try simp only [he, h1, h2] at hst
          refine X_keep hst ?_
          simp [h2]
        · simp [-getElem?_pos, List.getElem?_cons_zero, List.getElem?_cons_succ, T36_eq, e59, g0, he, h1, h2, ga0, ga1, ga2, sa0, sa1, sa2]
          have hst := hst false (by simp [he, h1, h2])
          try simp only [he, h1, h2] at hst
          refine X_keep hst ?_
          simp [h2]
      · by_cases h4 : t.kind = 4
        · by_cases h2 : t.text = tx
          · simp [-getElem?_pos, List.getElem?_cons_zero, List.getElem?_cons_succ, T36_eq, e59, g0, he, h4, h2, ga0, ga1, ga2, sa0, sa1, sa2]
            have hst := hst true (by simp [he, h4, h2])
            try simp only [he, h4, h2] at hst
            refine X_keep hst ?_
            simp [h2]
          · simp [-getElem?_pos, List.getElem?_cons_zero, List.getElem?_cons_succ, T36_eq, e59, g0, he, h4, h2, ga0, ga1, ga2, sa0, sa1, sa2]
            have hst := hst false (by simp [he, h4, h2])
            try simp only [he, h4, h2] at hst
            refine X_keep hst ?_
            simp [h2]
        · simp [-getElem?_pos, List.getElem?_cons_zero, List.getElem?_cons_succ, T36_eq, e59, g0, he, h1, h4, ga0, ga1, ga2, sa0, sa1, sa2]
          have hst := hst false (by simp [he, h1, h4])
          try simp only [he, h1, h4] at hst
          refine X_keep hst ?_
          simp
    · simp [-getElem?_pos, List.getElem?_cons_zero, List.getElem?_cons_succ, T36_eq, e59, g0, he, ga0, ga1, ga2, sa0, sa1, sa2]
      have hst := hst false (by simp [he])
      try simp only [he] at hst
      refine X_keep hst ?_
      simp
  obtain ⟨r, H', g1, H2, Q', g2, g3⟩ := all_of_XFn (by rfl) hx
  cases g2
  exact ⟨_, _, g1, g3⟩
end Go.Proofs.YtkbfgmneibabgaaDoor
namespace Go.Proofs.YtkbfgmneibabgaaDoor
open Go Go.Pm Go.RowKit
open LexP hiding place Sep Run
noncomputable def T35 : FuncId → Option Pm.Spec := tab [(14, .pure true F14), (24, .heap (arunAll Y T24 Tryd.f24))]
theorem T35_eq (g : Nat) : T35 g = tab [(14, .pure true F14), (24, .heap (arunAll Y T24 Tryd.f24))] g := rfl
theorem tok35 (W0 : World) : TOk Tryd.prog W0 T35 := tok_cons (meets14 W0) (tok_cons (meets24 W0) tok_nil)
theorem meets35 (W0 : World) : Enterable Tryd.prog 35 ∧ Meets Tryd.prog W0 35 (specFn (.heap (arunAll Y T35 Tryd.f35))) := meets_heap env (tok35 W0) mixed Tryd.func35 (by kernel_rfl) (by kernel_rfl)
theorem all35_ok {s : Bs} (hs : s.length ≤ 10000) {m : List Tk} {E : Tk} (hsc : scan s = .ok (m ++ [E])) (hE : E.kind = 0) (hm : ∀ t ∈ m, t.kind ≠ 0) {H : List Blk} :
    ∃ b, arunAll Y T35 Tryd.f35 [.str s] H = some (.ptr (H.length + 1) 0, H ++ [.tok 0 42, b]) ∧ Str (H.length + 1) ⟨m.map (tp s), tp s E, 0, 0, 0⟩ (H ++ [.tok 0 42, b]) := by
  have h14 := F14_at (s := s) (by omega)
  unfold scanR at h14
  rw [hsc] at h14
  simp only [tkRow_tp] at h14
  have hlx := scan_len hsc
  obtain ⟨b, e24, hS⟩ := (all24 (x := .own H.length 0 7 (((m ++ [E]).map (tp s)).map Tp.cells)) (ts := (m ++ [E]).map (tp s)) (H := H ++ [.tok 0 42]) (.inr ⟨_, _, rfl⟩) (by simp at hlx ⊢; omega)).2 (m.map (tp s)) (tp s E) [] (by simp) hE (fun y hy => by
    obtain ⟨t, ht, rfl⟩ := List.mem_map.1 hy; exact hm t ht)
  have e24 : arunAll Y T24 Tryd.f24 [.own H.length 0 7 (((m ++ [E]).map (tp s)).map Tp.cells)] (H ++ [.tok 0 42]) = some (.ptr (H.length + 1) 0, H ++ [.tok 0 42, b]) := by simpa using e24
  have hS : Str (H.length + 1) ⟨m.map (tp s), tp s E, 0, 0, 0⟩ (H ++ [.tok 0 42, b]) := by simpa using hS
  generalize ((m ++ [E]).map (tp s)).map Tp.cells = R at *
  have hx : XFn Y T35 Tryd.f35 [.str s] H (fun y => y = (.ptr (H.length + 1) 0, H ++ [.tok 0 42, b])) := by
    unfold XFn Tryd.f35
    rw [enter_1 _ (by decide)]
    simp [T35_eq, h14, e24]
  obtain ⟨r, H', g1, g2⟩ := all_of_XFn (by rfl) hx
  cases g2
  exact ⟨b, g1, hS⟩
theorem all35_err {s : Bs} (hs : s.length ≤ 10000) {o : Nat} {e : Int} (hsc : scan s = .error (o, e)) {H : List Blk} :
    ∃ b, arunAll Y T35 Tryd.f35 [.str s] H = some (.ptr H.length 0, H ++ [b]) ∧ Str H.length ⟨[], zTp, (LexP.place s o).1, (LexP.place s o).2, e⟩ (H ++ [b]) := by
  have h14 := F14_at (s := s) (by omega)
  unfold scanR at h14
  rw [hsc] at h14
  have he := scan_err_ne hsc
  have hx : XFn Y T35 Tryd.f35 [.str s] H (fun y => y = (.ptr H.length 0, H ++ [stB (.pv .nilSlice) ⟨[], zTp, (LexP.place s o).1, (LexP.place s o).2, e⟩])) := by
    unfold XFn Tryd.f35
    rw [enter_1 _ (by decide)]
    simp [T35_eq, h14, he, stB, zTp]
  obtain ⟨r, H', g1, g2⟩ := all_of_XFn (by rfl) hx
  cases g2
  exact ⟨_, g1, .pv .nilSlice, .inl ⟨rfl, .inl rfl⟩, by simp⟩
/-- An op of the law's. -/
structure OpT where
  k : Nat
  tx : Bs
  lo : Int
  hi : Int
  c : Int
def OpT.cells (o : OpT) : List PV := [.int .u8 o.k, .str o.tx, .int .i64 o.lo, .int .i64 o.hi, .int .u8 o.c]
def OpsR (v : SV) (os : List OpT) : Prop := (os = [] ∧ v = .pv .nilSlice) ∨ v = .pv (.slice 5 (os.map OpT.cells))
theorem OpsR.row {v : SV} {os : List OpT} (h : OpsR v os) : aLen Y 64 v = some os.length ∧ (∀ (i : Nat) (o : OpT), os[i]? = some o → aIndexAddr Y 64 v (i : Int) = some (.cptr o.cells)) ∧ live v = some v := by
  rcases h with ⟨rfl, rfl⟩ | rfl
  · exact ⟨by simp [sliceElems], fun i o h => by simp at h, rfl⟩
  · exact ⟨by simp [sliceElems], fun i o h => by
      have : (os.map OpT.cells)[i]? = some o.cells := by simp [h]
      simp [-getElem?_pos, this], rfl⟩
noncomputable def T11 : FuncId → Option Pm.Spec := tab [(15, .pure true F15), (16, .pure false F16), (17, .pure false F17), (27, .heap (arunAll Y T0 Tryd.f27)), (35, .heap (arunAll Y T35 Tryd.f35)), (36, .heap (arunAll Y T36 Tryd.f36))]
theorem T11_eq (g : Nat) : T11 g = tab [(15, .pure true F15), (16, .pure false F16), (17, .pure false F17), (27, .heap (arunAll Y T0 Tryd.f27)), (35, .heap (arunAll Y T35 Tryd.f35)), (36, .heap (arunAll Y T36 Tryd.f36))] g := rfl
theorem tok11 (W0 : World) : TOk Tryd.prog W0 T11 := tok_cons (meets15 W0) (tok_cons (meets16 W0) (tok_cons (meets17 W0) (tok_cons (meets27 W0) (tok_cons (meets35 W0) (tok_cons (meets36 W0) tok_nil)))))
theorem loop11 {F : List Fr} {P : SV × List Blk → Prop} {s : Bs} {m : List Tk} {x : SV} {w v ks : Nat} {ty : Option TypeId} (fx : Fx s m w v ks) {ov : SV} {os : List OpT} (ho : OpsR ov os) (hl : os.length ≤ 30)
    (he : ∀ Q H, W3 s m x w v ks ty Q H → X Y T11 [.tmp 4] F (.exit 0) ⟨mk 113 .J [(2, .ptr ks 0), (5, .ptr w 0), (6, .ptr v 0)], H⟩ P) :
    ∀ (r pre : List OpT) (Q : Qs) (H : List Blk), pre ++ r = os → W3 s m x w v ks ty Q H →
    X Y T11 [.tmp 4] F (.loop (loopN Tryd.f11 0)) ⟨mk 113 .J [(1, ov), (2, .ptr ks 0), (5, .ptr w 0), (6, .ptr v 0), (10, .i pre.length)], H⟩ P
  | [], pre, Q, H, h1, hw => by
    have e1 : pre.length = os.length := by rw [← h1]; simp
    have hq := he Q H hw
    obtain ⟨r1, r2, r3⟩ := ho.row
    rw [e1]
    apply X_loop_of
    · simp only [loopN, Tryd.f11, loopsOf, List.nil_append, List.append_nil, List.cons_append, List.getD_cons_succ, List.getD_cons_zero]; rfl
    simp [-aLen, r1, r3]
    refine X_keep hq ?_
    simp
  | o :: r, pre, Q, H, h1, hw => by
    have n1 : os.length = pre.length + (r.length + 1) := by rw [← h1]; simp
    obtain ⟨r1, r2, r3⟩ := ho.row
    have ia := r2 pre.length o (by rw [← h1]; simp)
    have lt : (pre.length : Int) < (os.length : Int) := by omega
    have ltn : pre.length < os.length := by omega
    have w1 : IntKind.i64.wrap ((pre.length : Int) + 1) = ((pre ++ [o]).length : Int) := by rw [wrap64 (by omega) (by omega)]; simp
    obtain ⟨H2, Q2, e36, hw2⟩ := all36 fx hw o.k o.tx o.lo o.hi o.c
    have ih := loop11 fx ho hl he r (pre ++ [o]) Q2 H2 (by rw [← h1]; simp) hw2
    unfold OpT.cells at ia
    generalize ((pre ++ [o]).length : Int) = E at *
    apply X_loop_of
    · simp only [loopN, Tryd.f11, loopsOf, List.nil_append, List.append_nil, List.cons_append, List.getD_cons_succ, List.getD_cons_zero]; rfl
    simp [-aLen, -aIndexAddr, r1, r3, lt, ltn, ia, w1, T11_eq, e36]
    refine X_keep ih ?_
    simp
end Go.Proofs.YtkbfgmneibabgaaDoor
namespace LexP
theorem tokL_kd2 {r : Bs} {kd : Int} {n : Nat} {v : Int} {bs : Bs} (h : tokL r = .tok kd n v bs) : kd ≠ 0 := by
  intro e
  subst e
  cases r with
  | nil => simp [tokL] at h
  | cons c r =>
    simp only [tokL] at h
    split at h
    · split at h <;> simp at h
    · split at h
      · split at h <;> simp at h
      · split at h
        · unfold strT at h
          split at h <;> first | (simp at h) | (split at h <;> simp at h)
        · split at h <;> simp at h
theorem sc_ends2 {fi : Bool} {rest : Bs} {l : List Core} (h : Sc fi rest l) : ∃ l' e, l = l' ++ [e] ∧ e.1 = 0 ∧ ∀ c ∈ l', c.1 ≠ 0 := by
  induction h with
  | @fin fi rest hd => exact ⟨[], _, rfl, rfl, fun _ h => by cases h⟩
  | @tok fi rest c r kd n v bs l hd ht hs ih =>
    obtain ⟨l', e, h1, h2, h3⟩ := ih
    refine ⟨_ :: l', e, by rw [h1]; rfl, h2, fun x hx => ?_⟩
    rcases List.mem_cons.1 hx with rfl | hx
    · exact tokL_kd2 ht
    · exact h3 x hx
theorem scan_ends2 {s : Bs} {m : List Tk} (h : scan s = .ok m) : ∃ m' E, m = m' ++ [E] ∧ E.kind = 0 ∧ ∀ t ∈ m', t.kind ≠ 0 := by
  obtain ⟨m1, h1, h2⟩ := sc_of_scan _ _ _ _ _ h
  have h1 : m = m1 := by simpa using h1
  subst h1
  have h2 : Sc true s (m.map Tk.core) := h2
  obtain ⟨l', e, k1, k2, k3⟩ := sc_ends2 h2
  have hne : m ≠ [] := by intro e; subst e; simp at k1
  refine ⟨m.dropLast, m.getLast hne, (List.dropLast_concat_getLast hne).symm, ?_, fun t ht => ?_⟩
  · have := congrArg List.getLast? k1
    rw [List.getLast?_map, List.getLast?_eq_some_getLast hne] at this
    simp at this
    rw [← this] at k2; exact k2
  · have : (m.dropLast).map Tk.core = l' := by
      have := congrArg List.dropLast k1
      rw [List.dropLast_concat, ← List.map_dropLast] at this; exact this
    exact k3 t.core (by rw [← this]; exact List.mem_map_of_mem ht)
end LexP
namespace Go.Proofs.YtkbfgmneibabgaaDoor
open Go Go.Pm Go.RowKit
open LexP hiding place Sep Run
theorem min_at11 (s : Bs) (n : Nat) : aMinMax false [.pv (.int .i64 (s.length : Int)), .pv (.int .i64 (n : Int))] = some (.i ((min s.length n : Nat) : Int)) := by
  by_cases h : n < s.length
  · have h1 : (n : Int) < (s.length : Int) := by omega
    simp [aMinMax, h1]; omega
  · have h1 : ¬ (n : Int) < (s.length : Int) := by omega
    simp [-Int.not_lt, aMinMax, h1]; omega
theorem take_min11 (s : Bs) (n : Nat) : s.take (min s.length n) = s.take n := by
  by_cases h : n < s.length
  · rw [Nat.min_eq_right (by omega)]
  · rw [Nat.min_eq_left (by omega), List.take_of_length_le (by omega), List.take_of_length_le (by omega)]
theorem ends_of {m : List Tk} {E : Tk} (hE : E.kind = 0) (hm : ∀ t ∈ m, t.kind ≠ 0) : Ends (m ++ [E]) := ⟨fun i t h => by
  rcases Nat.lt_or_ge i m.length with hi | hi
  · rw [List.getElem?_append_left hi] at h
    have := hm t (List.mem_of_getElem? h)
    simp [this]; omega
  · have hi2 : i < (m ++ [E]).length := (List.getElem?_eq_some_iff.1 h).1
    have : i = m.length := by simp at hi2; omega
    subst this
    simp at h
    subst h
    simp [hE]⟩
theorem x11 (s0 : Bs) (ov : SV) (os : List OpT) (ho : OpsR ov os) : XFn Y T11 Tryd.f11 [.str s0, ov] [] (Is (.bool true)) := by
  have aS := min_at11 s0 300
  have ts := take_min11 s0 300
  have hs : (s0.take 300).length ≤ 300 := by rw [List.length_take]; omega
  have es : ((min s0.length 300 : Nat) : Int).toNat = min s0.length 300 := by omega
  have es0 : (0 : Int) ≤ ((min s0.length 300 : Nat) : Int) := by omega
  have es1 : min s0.length 300 ≤ s0.length := by omega
  have aS : aMinMax false [.pv (.int .i64 (s0.length : Int)), .pv (.int .i64 300)] = some (.i ((min s0.length 300 : Nat) : Int)) := aS
  generalize ((min s0.length 300 : Nat) : Int) = Es at *
  generalize min s0.length 300 = ns at *
  generalize s0.take 300 = s at *
  obtain ⟨r1, r2, r3⟩ := ho.row
  by_cases hl : os.length ≤ 30
  · have hlz : ¬ (30 : Int) < (os.length : Int) := by omega
    have hln : ¬ 30 < os.length := by omega
    have h15 := F15_at (s := s) (by omega)
    unfold refR at h15
    cases hsc : scan s with
    | ok m0 =>
      obtain ⟨m, E, rfl, hE, hm⟩ := scan_ends2 hsc
      rw [hsc] at h15
      have hml := scan_len hsc
      obtain ⟨b, e35, hS⟩ := all35_ok (H := [.box (some 9) [.str s]]) (by omega) hsc hE hm
      have e35 : arunAll Y T35 Tryd.f35 [.str s] [.box (some 9) [.str s]] = some (.ptr 2 0, [.box (some 9) [.str s], .tok 0 42, b]) := e35
      have fx : Fx s (m ++ [E]) 2 3 0 := ⟨ends_of hE hm, by omega, scan_pos hsc, by decide, by decide, by decide⟩
      have hw : W3 s (m ++ [E]) (.own 4 0 6 (rfRow (m ++ [E]))) 2 3 0 (some 9) ⟨0, 0, 0⟩ [.box (some 9) [.str s], .tok 0 42, b, .box (some 68) [.own 4 0 6 (rfRow (m ++ [E])), .i 0, .i 0, .i 0], .tok 0 38] := by
        refine ⟨⟨⟨by simp [sliceElems], fun i a h => by simp [-getElem?_pos, h], rfl, rfl⟩, by omega, fun _ => by simp⟩, Nat.zero_le _, ?_, rfl, rfl⟩
        have hst : sto s (m ++ [E]) ⟨0, 0, 0⟩ = ⟨m.map (tp s), tp s E, 0, 0, 0⟩ := by simp [sto, enT]
        rw [hst]
        have hS : Str 2 ⟨m.map (tp s), tp s E, 0, 0, 0⟩ [.box (some 9) [.str s], .tok 0 42, b] := hS
        exact hS.app [_, _]
      have L := fun F P he => loop11 (F := F) (P := P) fx ho hl he os [] ⟨0, 0, 0⟩ _ rfl hw
      unfold XFn Tryd.f11
      rw [enter_2 _ (by decide)]
      simp [-aMinMax, -aLen, -getElem?_pos, List.getElem?_cons_zero, List.getElem?_cons_succ, aS, es, es0, es1, ts, len_str, r1, r3, hlz, hln, T11_eq, F16_at, e35, h15]
      refine X_keep (L _ _ ?_) (by simp)
      intro Q H hq
      have e27 := all27 hq.S
      have hv : H[3]? = some (.box (some 68) [.own 4 0 6 (rfRow (m ++ [E])), .i Q.a, .i Q.e, .i Q.p]) := hq.V
      have h0 := hq.K
      by_cases he : Q.e = 0
      · simp only [sto, he, if_true] at e27
        simp [-getElem?_pos, List.getElem?_cons_zero, List.getElem?_cons_succ, T11_eq, e27, hv, he, Is_mk, outR, outP]
      · simp only [sto, he, if_false] at e27
        have h17 := F17_at (s := s) hq.P (by omega)
        simp [-getElem?_pos, List.getElem?_cons_zero, List.getElem?_cons_succ, T11_eq, e27, hv, h0, he, h17, Is_mk, outR, outP]
    | error p =>
      obtain ⟨o, er⟩ := p
      rw [hsc] at h15
      have her := scan_err_ne hsc
      have hol := scan_err_le hsc
      obtain ⟨b, e35, hS⟩ := all35_err (H := [.box (some 9) [.str s]]) (by omega) hsc
      have e35 : arunAll Y T35 Tryd.f35 [.str s] [.box (some 9) [.str s]] = some (.ptr 1 0, [.box (some 9) [.str s], b]) := e35
      have fx : Fx s [] 1 2 0 := ⟨⟨fun i t h => by simp at h⟩, by omega, fun t h => (by cases h), by decide, by decide, by decide⟩
      have hw : W3 s [] (.pv .nilSlice) 1 2 0 (some 9) ⟨0, er, o⟩ [.box (some 9) [.str s], b, .box (some 68) [.pv .nilSlice, .i 0, .i er, .i o]] := by
        refine ⟨⟨⟨by simp [sliceElems, rfRow], fun i a h => by simp [rfRow] at h, rfl, rfl⟩, by simp, fun h => absurd h her⟩, hol, ?_, rfl, rfl⟩
        have hst : sto s [] ⟨0, er, o⟩ = ⟨[], zTp, (LexP.place s o).1, (LexP.place s o).2, er⟩ := by simp [sto, enT, her]
        rw [hst]
        have hS : Str 1 ⟨[], zTp, (LexP.place s o).1, (LexP.place s o).2, er⟩ [.box (some 9) [.str s], b] := hS
        exact hS.app [_]
      have L := fun F P he => loop11 (F := F) (P := P) fx ho hl he os [] ⟨0, er, o⟩ _ rfl hw
      unfold XFn Tryd.f11
      rw [enter_2 _ (by decide)]
      simp [-aMinMax, -aLen, -getElem?_pos, List.getElem?_cons_zero, List.getElem?_cons_succ, aS, es, es0, es1, ts, len_str, r1, r3, hlz, hln, T11_eq, F16_at, e35, h15]
      refine X_keep (L _ _ ?_) (by simp)
      intro Q H hq
      have e27 := all27 hq.S
      have hv : H[2]? = some (.box (some 68) [.pv .nilSlice, .i Q.a, .i Q.e, .i Q.p]) := hq.V
      have h0 := hq.K
      by_cases he : Q.e = 0
      · simp only [sto, he, if_true] at e27
        simp [-getElem?_pos, List.getElem?_cons_zero, List.getElem?_cons_succ, T11_eq, e27, hv, he, Is_mk, outR, outP]
      · simp only [sto, he, if_false] at e27
        have h17 := F17_at (s := s) hq.P (by omega)
        simp [-getElem?_pos, List.getElem?_cons_zero, List.getElem?_cons_succ, T11_eq, e27, hv, h0, he, h17, Is_mk, outR, outP]
  · have hlz : (30 : Int) < (os.length : Int) := by omega
    have hln : 30 < os.length := by omega
    unfold XFn Tryd.f11
    rw [enter_2 _ (by decide)]
    simp [-aMinMax, -aLen, -getElem?_pos, List.getElem?_cons_zero, List.getElem?_cons_succ, aS, es, es0, es1, ts, len_str, r1, r3, hlz, hln, T11_eq, F16_at, Is_mk, outR, outP]
end Go.Proofs.YtkbfgmneibabgaaDoor
