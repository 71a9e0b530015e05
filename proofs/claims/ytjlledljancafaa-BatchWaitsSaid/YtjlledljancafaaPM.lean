/- The order is a permutation of what is ripe. -/
import Derived.Test.YtjlledljancafaaPL
set_option linter.unusedSimpArgs false
set_option linter.unusedVariables false
namespace Go.Proofs.Ytjlledljancafaa
open Go.RowKit Go.XB

theorem swapA_cons {α : Type} (a : α) (l : List α) (j : Nat) : swapA (a :: l) (j + 1) = a :: swapA l j := by
  unfold swapA
  simp only [List.getElem?_cons_succ]
  split <;> simp
theorem swapA_perm {α : Type} : ∀ (l : List α) (j : Nat), (swapA l j).Perm l
  | [], j => by unfold swapA; simp
  | [a], 0 => by unfold swapA; simp
  | a :: b :: l, 0 => by
    have e : swapA (a :: b :: l) 0 = b :: a :: l := rfl
    rw [e]; exact List.Perm.swap a b l
  | a :: l, j + 1 => by
    rw [swapA_cons]
    exact (swapA_perm l j).cons a
theorem insDn_perm {α : Type} (cf : α → α → Int) (a : Nat) : ∀ (j : Nat) (l : List α), (insDn cf a j l).Perm l
  | 0, l => List.Perm.refl _
  | j + 1, l => by
    unfold insDn
    split
    · split
      · exact (insDn_perm cf a j _).trans (swapA_perm l j)
      · exact List.Perm.refl _
    · exact List.Perm.refl _
theorem insUp_perm {α : Type} (cf : α → α → Int) (a b : Nat) : ∀ (k i : Nat) (l : List α), b - i = k → (insUp cf a b i l).Perm l
  | 0, i, l, h => by rw [insUp_stop (by omega)]
  | k + 1, i, l, h => by
    rw [insUp_go (by omega)]
    exact (insUp_perm cf a b k (i + 1) _ (by omega)).trans (insDn_perm cf a i l)
theorem orderL_perm (next : Int) (l : List Inp) : (orderL next l).Perm (l.filter fun x => !outI next x) := insUp_perm _ _ _ _ _ _ rfl
theorem lockA_perm {l m : List Inp} (h : l.Perm m) : ∀ s, lockA l s = lockA m s := by
  induction h with
  | nil => intro s; rfl
  | cons x _ ih => intro s; unfold lockA; exact ih _
  | swap x y l => intro s; unfold lockA; unfold lockA; congr 1; omega
  | trans _ _ ih1 ih2 => intro s; rw [ih1, ih2]
theorem dup_pair : ∀ (l : List Pt), dupB l = false ↔ l.Pairwise (fun a b => ptEq a b = false)
  | [] => by simp [dupB]
  | p :: l => by
    unfold dupB
    rw [List.pairwise_cons, Bool.or_eq_false_iff, dup_pair l, List.any_eq_false]
    simp
theorem dup_perm {l m : List Pt} (h : l.Perm m) (hd : dupB m = false) : dupB l = false := by
  rw [dup_pair] at hd ⊢
  refine (h.pairwise_iff ?_).2 hd
  intro a b hab
  cases hb : ptEq b a with
  | false => rfl
  | true => rw [ptEq_symm hb] at hab; cases hab
theorem dup_filter {l : List Inp} {p : Inp → Bool} (hd : dupB (l.map fun i => i.pt) = false) : dupB ((l.filter p).map fun i => i.pt) = false := by
  rw [dup_pair] at hd ⊢
  exact hd.sublist ((List.filter_sublist).map _)
theorem like_ripe {D n lock wait next : Int} (h3 : 0 ≤ lock) (h4 : lock ≤ 50) (h5 : 0 ≤ wait) (h6 : wait ≤ 50) : ripeW (likeI D n lock wait).clm (likeI D n lock wait).conf next = decide (max (max lock wait) 1 ≤ next) := by
  have e1 : (likeI D n lock wait).clm.lock = lock := rfl
  have e2 : (likeI D n lock wait).clm.wait = wait := rfl
  have e3 : (likeI D n lock wait).conf = 0 := rfl
  have e : ripensW (likeI D n lock wait).clm (likeI D n lock wait).conf = max (max lock wait) 1 := by
    unfold ripensW heldW
    rw [e1, e2, e3]
    omega
  unfold ripeW
  rw [e]
/-- the batches of like inputs -/
theorem likes_allE {D next key : Int} {l : List Inp} (h : Likes D l) (hD : 0 ≤ D) (hD2 : D ≤ 1000000) (hl2 : l.length ≤ 40) (hd : dupB (l.map fun i => i.pt) = false) (hk : inB key 0 1073741824 = true) (hn : inB next 0 1000000 = true) :
    (allE l next 400000 key).2 = 0 ∧
    if (l.filter fun x => !outI next x).length = 0 then (allE l next 400000 key).1 = [] else ∃ b : Bat, (allE l next 400000 key).1 = [b] ∧ b.ins.length = (l.filter fun x => !outI next x).length ∧ b.lock = lockA (l.filter fun x => !outI next x) 0 := by
  have hp := orderL_perm next l
  have hlen := orderL_length next l
  have hfl := List.length_filter_le (fun x => !outI next x) l
  rw [allE_ok (by rw [hn, hk]; rfl) (by omega) hd]
  refine ⟨rfl, ?_⟩
  have hL : Likes D (orderL next l) := fun i hi => h i (List.mem_filter.1 (hp.mem_iff.1 hi)).1
  have ha : apartP [] ((orderL next l).map fun i => i.pt) = true := apart_dup _ _ (fun _ _ => rfl) (dup_perm (hp.map _) (dup_filter hd))
  have h1 := likes_all (next := next) (key := key) hL hD hD2 (by omega) ha hk
  rw [hlen] at h1
  split
  · rename_i h0
    rw [if_pos h0] at h1
    rw [hlen]
    exact h1
  · rename_i h0
    rw [if_neg h0] at h1
    obtain ⟨v, f, r, h2⟩ := h1
    refine ⟨_, by rw [hlen]; exact h2, by show (List.map Inp.tin (orderL next l)).length = _; rw [List.length_map, hlen], lockA_perm hp 0⟩

end Go.Proofs.Ytjlledljancafaa
