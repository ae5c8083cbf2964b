/- The example and the laws of the names, by the machine. -/
import Derived.Test.YtmmpjnjdddaldaaGreatDoorIntE2
set_option linter.unusedSimpArgs false
set_option linter.unusedVariables false
set_option maxRecDepth 1000000
set_option maxHeartbeats 1000000
namespace Go.Proofs.YtmmpjnjdddaldaaGreatDoor
open Go Go.Pm Go.RowKit
noncomputable def zT7 : FuncId → Option Pm.Spec := tab [(21, .pure false F26), (8, .pure false zF8), (22, .pure false F11)]
theorem zT7_eq (g : Nat) : zT7 g = tab [(21, .pure false F26), (8, .pure false zF8), (22, .pure false F11)] g := rfl
theorem zx7 : XFn Y zT7 Tryz.f7 [] [] (Is (.bool true)) := by
  unfold XFn Tryz.f7
  rw [enter_mk0]
  have h1 : F26 [P3 0 0 4, P3 2 (-1) 4] = some (.tuple [I2 2 3, .i 0]) := rfl
  have h2 : F11 [P3 3 2 4, I2 0 1] = some (.tuple [P3 4 1 4, .i 0]) := by kernel_rfl
  have h3 : zF8 [I2 2 3] = some (.tuple [.str [109, 51], .i 0]) := by
    have : isI 2 3 := ⟨⟨by omega, by omega⟩, by omega, by omega⟩
    have ht : textZ 2 3 = [109, 51] := by decide +kernel
    simp [zF8, this, ht]
  simp [zT7_eq, h1, h2, h3]
def zF7 : List SV → Option SV
  | [] => some (.bool true)
  | _ => none
theorem zmeets7 {W0 : World} (L : Laid W0) : OkAt W0 7 zF7 := meets_fn env (tok_cons (meets26 W0) (tok_cons (zmeets8 L) (tok_cons (meets11 W0) tok_nil))) mixed Tryz.func7 (by kernel_rfl) (by kernel_rfl) fun args r h => by
  unfold zF7 at h
  split at h
  · cases h; exact zx7
  · cases h
/-- Parses. -/
noncomputable def T3 : FuncId → Option Pm.Spec := tab [(5, .pure false zF5), (6, .pure false zF6), (7, .pure false zF7)]
theorem T3_eq (g : Nat) : T3 g = tab [(5, .pure false zF5), (6, .pure false zF6), (7, .pure false zF7)] g := rfl
theorem tok3 {W0 : World} (L : Laid W0) : TOk Tryz.prog W0 T3 := tok_cons (zmeets5 L) (tok_cons (zmeets6 W0) (tok_cons (zmeets7 L) tok_nil))
theorem x3 (s : Bs) : XFn Y T3 Tryz.f3 [.str s] [] (Is (.bool true)) := by
  unfold XFn Tryz.f3
  rw [enter_1 _ (by decide)]
  by_cases h : (400 : Int) < (s.length : Int)
  · have hl : (s.take 400).length ≤ 400 := by rw [List.length_take]; omega
    have h5 : zF5 [.str (s.take 400)] = some (piV (pz (s.take 400))) := by simp only [zF5]; rw [if_pos hl]
    have h6 : zF6 [.str (s.take 400)] = some (piV (pz (s.take 400))) := by simp only [zF6]; rw [if_pos hl, rz_pz]
    have hb : 400 ≤ s.length := by omega
    generalize pz (s.take 400) = x at *
    simp [-Int.not_lt, -Int.not_le, -List.length_take, h, hb, T3_eq, h5, h6, zF7]
  · have h5 : zF5 [.str s] = some (piV (pz s)) := by simp only [zF5]; rw [if_pos (by omega)]
    have h6 : zF6 [.str s] = some (piV (pz s)) := by simp only [zF6]; rw [if_pos (by omega), rz_pz]
    have ht : s.take s.length = s := List.take_length
    generalize pz s = x at *
    simp [-Int.not_lt, -Int.not_le, h, T3_eq, h5, h6, zF7]
/-- Texts. -/
noncomputable def T4 : FuncId → Option Pm.Spec := tab [(8, .pure false zF8), (9, .pure false zF9), (7, .pure false zF7), (10, .pure false F23), (5, .pure false zF5), (11, .pure false zF11), (12, .pure false zF12)]
theorem T4_eq (g : Nat) : T4 g = tab [(8, .pure false zF8), (9, .pure false zF9), (7, .pure false zF7), (10, .pure false F23), (5, .pure false zF5), (11, .pure false zF11), (12, .pure false zF12)] g := rfl
theorem tok4 {W0 : World} (L : Laid W0) : TOk Tryz.prog W0 T4 := tok_cons (zmeets8 L) (tok_cons (zmeets9 L) (tok_cons (zmeets7 L) (tok_cons (meets23 W0) (tok_cons (zmeets5 L) (tok_cons (zmeets11 W0) (tok_cons (zmeets12 W0) tok_nil))))))
theorem text_len {s m : Int} (h : isI s m) : (textZ s m).length ≤ 400 := by
  obtain ⟨u1, u2⟩ := up_range h
  obtain ⟨⟨h1, h2⟩, h3, h4⟩ := h
  unfold textZ
  by_cases hd : downZ s m = true
  · rw [if_pos hd]
    have := u1 hd
    have := (txt_parts (u := -s) (v := -m) (by omega) (by omega)).2.2.2.2
    simp; omega
  · rw [if_neg hd]
    have := u2 (by simpa using hd)
    have := (txt_parts (u := s) (v := m) (by omega) (by omega)).2.2.2.2
    omega
theorem x4 (s m : Int) : XFn Y T4 Tryz.f4 [I2 s m] [] (Is (.bool true)) := by
  unfold XFn Tryz.f4
  rw [enter_1 _ (by decide)]
  by_cases h : isI s m
  · have h5 : zF5 [.str (textZ s m)] = some (.tuple [I2 s m, .i 0]) := by simp only [zF5]; rw [if_pos (text_len h), pz_text h]
    generalize hx : textZ s m = t at *
    generalize hy : nameZ s m = u at *
    simp [-Int.not_lt, -Int.not_le, T4_eq, zF8, zF9, zF7, F23, h5, zF11, zF12, h, hx, hy]
  · simp [-Int.not_lt, -Int.not_le, T4_eq, zF8, zF9, zF7, F23, h]
end Go.Proofs.YtmmpjnjdddaldaaGreatDoor
