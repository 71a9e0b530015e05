/- A scope with one label: the way to the label, and one pass from it. -/
import Derived.Test.YtjlledljancafaaB1
import Derived.ScopeJumps
namespace Go.XB
open Go.RowKit
/-- the run of c comes to label l in a state that J holds of (or leaves c by Q) -/
def wpTo (P : Program) (l : Nat) (J : Act → World → Prop) : Code → (Exit → Act → World → Prop) → Act → World → Prop
  | .seq x y, Q, a, w => if (findLabel x l).isSome = true then wpTo P l J x Q a w else x.wp P (Exit.then (fun a w => wpTo P l J y Q a w) Q) a w
  | .label _, _, a, w => J a w
  | _, _, _, _ => False
/-- what is left of c behind label l -/
def wpFrom (P : Program) (l : Nat) : Code → (Exit → Act → World → Prop) → Act → World → Prop
  | .seq x y, Q, a, w => if (findLabel x l).isSome = true then wpFrom P l x (Exit.then (y.wp P Q) Q) a w else wpFrom P l y Q a w
  | .label _, Q, a, w => Q .normal a w
  | _, _, _, _ => False
theorem wpTo_then {P : Program} {l : Nat} {J K : Act → World → Prop} {Q : Exit → Act → World → Prop} (c : Code) (a : Act) (w : World) (h : wpTo P l J c Q a w) : wpTo P l J c (Exit.then K Q) a w := by
  match c, h with
  | .seq x y, h =>
    unfold wpTo at h ⊢
    split
    · rename_i hx
      rw [if_pos hx] at h
      exact wpTo_then x a w h
    · rename_i hx
      rw [if_neg hx] at h
      exact Code.wp_mono (fun e a w he => by
        cases e with
        | normal => exact wpTo_then y a w he
        | _ => exact he) h
  | .label _, h => exact h
theorem wpFrom_rest {P : Program} {l : Nat} (c rest : Code) (Q : Exit → Act → World → Prop) (a : Act) (w : World) (hf : findLabel c l = some rest) (h : wpFrom P l c Q a w) : rest.wp P Q a w := by
  match c, hf, h with
  | .seq x y, hf, h =>
    unfold wpFrom at h
    unfold findLabel at hf
    split at hf
    · rename_i r hx
      injection hf with hf
      subst hf
      rw [hx, if_pos (by simp)] at h
      exact wp_seq (wpFrom_rest x r _ a w hx h)
    · rename_i hx
      rw [hx, if_neg (by simp)] at h
      exact wpFrom_rest y rest Q a w hf h
  | .label l', hf, h =>
    unfold findLabel at hf
    split at hf
    · injection hf with hf
      subst hf
      exact wp_skip h
    · cases hf
theorem wpTo_wp {P : Program} {l : Nat} {J : Act → World → Prop} (c rest : Code) (Q : Exit → Act → World → Prop) (a : Act) (w : World) (hf : findLabel c l = some rest) (hr : ∀ a w, J a w → wpFrom P l c Q a w) (h : wpTo P l J c Q a w) : c.wp P Q a w := by
  match c, hf, hr, h with
  | .seq x y, hf, hr, h =>
    unfold wpTo at h
    unfold findLabel at hf
    split at hf
    · rename_i r hx
      rw [hx, if_pos (by simp)] at h
      exact wp_seq (wpTo_wp x r _ a w hx (fun a w hj => by have h2 := hr a w hj; unfold wpFrom at h2; rw [hx, if_pos (by simp)] at h2; exact h2) (wpTo_then x a w h))
    · rename_i hx
      rw [hx, if_neg (by simp)] at h
      exact wp_seq (Code.wp_mono (fun e a w he => by
        cases e with
        | normal => exact wpTo_wp y rest Q a w hf (fun a w hj => by have h2 := hr a w hj; unfold wpFrom at h2; rw [hx, if_neg (by simp)] at h2; exact h2) he
        | _ => exact he) h)
  | .label l', hf, hr, h => exact wp_label (hr a w h)
theorem wpFrom_mono {P : Program} {l : Nat} (c : Code) {Q Q' : Exit → Act → World → Prop} (hq : ∀ e a w, Q e a w → Q' e a w) (a : Act) (w : World) (h : wpFrom P l c Q a w) : wpFrom P l c Q' a w := by
  match c, h with
  | .seq x y, h =>
    unfold wpFrom at h ⊢
    split
    · rename_i hx
      rw [if_pos hx] at h
      exact wpFrom_mono x (fun e a w he => by
        cases e with
        | normal => exact Code.wp_mono hq he
        | _ => exact hq _ _ _ he) a w h
    · rename_i hx
      rw [if_neg hx] at h
      exact wpFrom_mono y hq a w h
  | .label _, h => exact hq _ _ _ h
theorem scope_once {P : Program} {a : Act} {w : World} {Q : Exit → Act → World → Prop} {c rest : Code} (l : Nat) (J : Act → World → Prop) (μ : Act → World → Nat) (hf : findLabel c l = some rest)
    (first : wpTo P l J c (Exit.jump l J Q) a w)
    (pass : ∀ a w, J a w → wpFrom P l c (Exit.jump l (fun a' w' => J a' w' ∧ μ a' w' < μ a w) Q) a w) : (Code.scope c).wp P Q a w :=
  wp_scope_jumps l J μ hf (wpTo_wp c rest _ a w hf (fun a w hj => wpFrom_mono c (fun e a' w' he => by
    cases e with
    | goto l' => exact ⟨he.1, he.2.1⟩
    | _ => exact he) a w (pass a w hj)) first) (fun a w hj => wpFrom_rest c rest _ a w hf (pass a w hj))
section
variable {P : Program} {l : Nat} {J : Act → World → Prop} {x y : Code} {Q : Exit → Act → World → Prop} {a : Act} {w : World}
theorem wpTo_in (h : (findLabel x l).isSome = true) (hh : wpTo P l J x Q a w) : wpTo P l J (.seq x y) Q a w := by unfold wpTo; rw [if_pos h]; exact hh
theorem wpTo_out (h : (findLabel x l).isSome = false) (hh : x.wp P (Exit.then (wpTo P l J y Q) Q) a w) : wpTo P l J (.seq x y) Q a w := by unfold wpTo; rw [if_neg (by rw [h]; simp)]; exact hh
theorem wpTo_label {l' : Nat} (h : J a w) : wpTo P l J (.label l') Q a w := h
theorem wpFrom_in (h : (findLabel x l).isSome = true) (hh : wpFrom P l x (Exit.then (y.wp P Q) Q) a w) : wpFrom P l (.seq x y) Q a w := by unfold wpFrom; rw [if_pos h]; exact hh
theorem wpFrom_out (h : (findLabel x l).isSome = false) (hh : wpFrom P l y Q a w) : wpFrom P l (.seq x y) Q a w := by unfold wpFrom; rw [if_neg (by rw [h]; simp)]; exact hh
theorem wpFrom_label {l' : Nat} (h : Q .normal a w) : wpFrom P l (.label l') Q a w := h
end
end Go.XB
