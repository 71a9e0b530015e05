/- Like inputs go into one batch: plain Lean. -/
import Derived.Test.YtjlledljancafaaAL
set_option linter.unusedSimpArgs false
set_option linter.unusedVariables false
namespace Go.Proofs.Ytjlledljancafaa
open Go.RowKit Go.XB

/-- an input as the law makes it -/
def likeI (D n lock wait : Int) : Inp := ⟨⟨0, n⟩, 100000, ⟨⟨1, 2, ByteArray.empty⟩, 0, lock, wait⟩, 0, 0, D, 50000⟩
structure Like (D : Int) (i : Inp) : Prop where
  eq : ∃ n lock wait, i = likeI D n lock wait ∧ 0 ≤ n ∧ n ≤ 99 ∧ 0 ≤ lock ∧ lock ≤ 50 ∧ 0 ≤ wait ∧ wait ≤ 50
theorem like_alone (D n lock wait : Int) : alone (likeI D n lock wait) = 414 := by kernel_rfl
theorem like_rateA : rateA 50000 414 = (120772, 0) := by kernel_rfl
theorem like_curve {D : Int} (h : 0 ≤ D) (h2 : D ≤ 1000000) : curveOk 0 D 50000 414 = true := by
  unfold curveOk
  rw [like_rateA, inB_t (by omega), inB_t (by omega)]
  rfl
theorem like_check {D : Int} {i : Inp} (h : Like D i) (hD : 0 ≤ D) (hD2 : D ≤ 1000000) : checkE i = 0 := by
  obtain ⟨n, lock, wait, rfl, h1, h2, h3, h4, h5, h6⟩ := h.eq
  have hf : checkF (likeI D n lock wait) = true := by
    have e1 : inB n 0 99 = true := inB_t (by omega)
    have e2 : inB lock 0 1000000 = true := inB_t (by omega)
    have e3 : inB wait 0 65535 = true := inB_t (by omega)
    have e4 : witB ⟨1, 2, ByteArray.empty⟩ = true := by kernel_rfl
    unfold checkF waitsB likeI
    simp only [e1, e2, e3, e4]
    rfl
  unfold checkE
  rw [if_pos hf]
  unfold cvE
  rw [like_alone]
  show (if curveOk 0 D 50000 414 = true then (0 : Int) else 1) = 0
  rw [if_pos (like_curve hD hD2)]
/-- their rate -/
def likeR (D next : Int) : Int := atC (curveV 0 D 50000 414) next
theorem like_rate {D next : Int} {i : Inp} (h : Like D i) (hD : 0 ≤ D) (hD2 : D ≤ 1000000) : rateI i next = likeR D next := by
  have hc := like_check h hD hD2
  obtain ⟨n, lock, wait, rfl, _⟩ := h.eq
  unfold rateI
  rw [if_pos hc, like_alone]
  rfl
theorem likeR_bd {D next : Int} (hD : 0 ≤ D) (hD2 : D ≤ 1000000) : 0 ≤ likeR D next ∧ likeR D next ≤ 120772 := by
  unfold likeR
  have hv := curveV_ok (like_curve hD hD2)
  have hd : (curveV 0 D 50000 414).d = 120772 := by unfold curveV; rw [like_rateA]; rfl
  obtain ⟨v, hvv⟩ : ∃ v, v = curveV 0 D 50000 414 := ⟨_, rfl⟩
  rw [← hvv] at hv hd ⊢
  obtain ⟨a1, a2, a3, a4, a5⟩ := hv
  unfold atC
  split
  · omega
  · split
    · omega
    · rename_i h1 h2
      have h3 : (v.d - v.b) * (min (max next (-1)) 1000001 - (v.a : Int)).toNat / (v.c - v.a) ≤ v.d - v.b := by
        rw [Nat.div_le_iff_le_mul_add_pred (by omega)]
        have h4 : (min (max next (-1)) 1000001 - (v.a : Int)).toNat ≤ v.c - v.a := by omega
        have := Nat.mul_le_mul_left (v.d - v.b) h4
        have e : (v.c - v.a) * (v.d - v.b) = (v.d - v.b) * (v.c - v.a) := Nat.mul_comm _ _
        omega
      obtain ⟨q, hq⟩ : ∃ q, q = (v.d - v.b) * (min (max next (-1)) 1000001 - (v.a : Int)).toNat / (v.c - v.a) := ⟨_, rfl⟩
      rw [← hq] at h3 ⊢
      omega
def Likes (D : Int) (l : List Inp) : Prop := ∀ i ∈ l, Like D i
theorem likes_ok {D : Int} {l : List Inp} (h : Likes D l) (hD : 0 ≤ D) (hD2 : D ≤ 1000000) : okAll l = true := by
  unfold okAll
  rw [List.all_eq_true]
  intro i hi
  simpa using like_check (h i hi) hD hD2
theorem likes_total {D : Int} : ∀ (l : List Inp) (s : Int), Likes D l → 0 ≤ s → s + 100000 * l.length ≤ 2100000000000000 → totalA (l.map fun i => i.value) s = (s + 100000 * l.length, 0)
  | [], s, _, _, _ => by simp [totalA]
  | i :: l, s, h, h0, h1 => by
    obtain ⟨n, lock, wait, e, _⟩ := (h i (by simp)).eq
    have ev : i.value = 100000 := by rw [e]; rfl
    simp only [List.length_cons, Int.natCast_add, Int.natCast_one] at h1
    have ha : addA s 100000 = (s + 100000, 0) := by
      have m1 : money s = true := inB_t (by omega)
      have m2 : money 100000 = true := by kernel_rfl
      have m3 : money (s + 100000) = true := inB_t (by omega)
      unfold addA heldA
      rw [m1, m2, m3]
      rfl
    rw [List.map_cons, ev]
    unfold totalA
    rw [ha, if_pos rfl, likes_total l (s + 100000) (fun j hj => h j (by simp [hj])) (by omega) (by omega)]
    simp only [List.length_cons, Int.natCast_add, Int.natCast_one]
    congr 1
    omega
theorem likes_weight {D : Int} : ∀ (l : List Inp), Likes D l → wsum (l.map Inp.tin) = 74 * l.length
  | [], _ => by simp [wsum]
  | i :: l, h => by
    obtain ⟨n, lock, wait, e, _⟩ := (h i (by simp)).eq
    have ih := likes_weight l (fun j hj => h j (by simp [hj]))
    unfold wsum at ih ⊢
    simp only [List.map_cons, List.sum_cons, List.length_cons, Int.natCast_add, Int.natCast_one]
    rw [ih]
    have ew : witW i.tin.wit.kind = 74 := by rw [e]; rfl
    rw [ew]; omega
theorem likes_bud {D : Int} : ∀ (l : List Inp) (s : Int), Likes D l → 0 ≤ s → s + 50000 * l.length ≤ 1152921504606846976 → budA l s = s + 50000 * l.length
  | [], s, _, _, _ => by simp [budA]
  | i :: l, s, h, h0, h1 => by
    obtain ⟨n, lock, wait, e, _⟩ := (h i (by simp)).eq
    have ev : i.budget = 50000 := by rw [e]; rfl
    simp only [List.length_cons, Int.natCast_add, Int.natCast_one] at h1 ⊢
    unfold budA
    rw [ev, show min (s + 50000) 1152921504606846976 = s + 50000 by omega, likes_bud l _ (fun j hj => h j (by simp [hj])) (by omega) (by omega)]
    omega
theorem likes_lock {D : Int} : ∀ (l : List Inp) (s : Int), Likes D l → 0 ≤ s → s ≤ 50 → 0 ≤ lockA l s ∧ lockA l s ≤ 50
  | [], s, _, h0, h1 => ⟨h0, h1⟩
  | i :: l, s, h, h0, h1 => by
    obtain ⟨n, lock, wait, e, _, _, h3, h4, _⟩ := (h i (by simp)).eq
    have ev : i.clm.lock = lock := by rw [e]; rfl
    unfold lockA
    exact likes_lock l _ (fun j hj => h j (by simp [hj])) (by omega) (by omega)
theorem idxO_lt {α : Type} {p : α → Bool} : ∀ (l : List α) (k : Nat), l.any p = false → idxO p l k = -1
  | [], _, _ => rfl
  | x :: l, k, h => by
    simp only [List.any_cons, Bool.or_eq_false_iff] at h
    unfold idxO
    rw [if_neg (by rw [h.1]; simp)]
    exact idxO_lt l _ h.2
/-- no two are alike -/
def apartP : List Pt → List Pt → Bool
  | _, [] => true
  | done, p :: l => !(done.any fun q => ptEq q p) && apartP (done ++ [p]) l
theorem likes_ins {D : Int} : ∀ (l : List Inp) (done : List TIn), Likes D l → apartP (done.map fun t => t.prev) (l.map fun i => i.pt) = true → insOk done (l.map Inp.tin) = true
  | [], _, _, _ => rfl
  | i :: l, done, h, ha => by
    obtain ⟨n, lock, wait, e, h1, h2, _⟩ := (h i (by simp)).eq
    simp only [List.map_cons, apartP, Bool.and_eq_true, Bool.not_eq_true'] at ha
    have ht : tinB i.tin = true := by
      rw [e]
      have e1 : inB n 0 99 = true := inB_t (by omega)
      have e4 : witB ⟨1, 2, ByteArray.empty⟩ = true := by kernel_rfl
      unfold tinB likeI Inp.tin
      simp only [e1, e4]
      rfl
    have hi : idxO (fun y : TIn => ptEq y.prev i.tin.prev) done 0 = -1 := idxO_lt _ _ (by
      have := ha.1
      rw [List.any_map] at this
      exact this)
    simp only [List.map_cons, insOk]
    rw [ht, hi, likes_ins l (done ++ [i.tin]) (fun j hj => h j (by simp [hj])) (by rw [List.map_append]; exact ha.2)]
    rfl
theorem apart_dup : ∀ (l done : List Pt), (∀ p ∈ l, done.any (fun q => ptEq q p) = false) → dupB l = false → apartP done l = true
  | [], _, _, _ => rfl
  | p :: l, done, h, hd => by
    simp only [dupB, Bool.or_eq_false_iff] at hd
    simp only [apartP, Bool.and_eq_true, Bool.not_eq_true']
    refine ⟨h p (by simp), apart_dup l _ (fun r hr => ?_) hd.2⟩
    rw [List.any_append, h r (by simp [hr]), Bool.false_or]
    have := hd.1
    rw [List.any_eq_false] at this
    have h2 := this r hr
    simp only [List.any_cons, List.any_nil, Bool.or_false]
    simpa using h2
theorem likes_make {D next key : Int} {l : List Inp} (h : Likes D l) (hD : 0 ≤ D) (hD2 : D ≤ 1000000) (hl : 0 < l.length) (hl2 : l.length ≤ 40) (ha : apartP [] (l.map fun i => i.pt) = true) (hk : inB key 0 1073741824 = true) :
    ∃ v f : Int, makeA l (likeR D next) key = some ⟨l.map Inp.tin, v, key, lockA l 0, f, likeR D next⟩ := by
  obtain ⟨hr0, hr1⟩ := likeR_bd (D := D) (next := next) hD hD2
  obtain ⟨r, hr⟩ : ∃ r, r = likeR D next := ⟨_, rfl⟩
  rw [← hr] at hr0 hr1 ⊢
  have hw : weightT (l.map Inp.tin) 1 = 176 + 238 * (l.length : Int) := by
    unfold weightT
    rw [likes_weight l h, List.length_map]
    omega
  have hV : makeV l = (100000 * (l.length : Int), 0) := by
    unfold makeV
    rw [likes_total l 0 h (by omega) (by omega)]
    simp
  have hB : budA l 0 = 50000 * (l.length : Int) := by rw [likes_bud l 0 h (by omega) (by omega)]; omega
  obtain ⟨m, hm⟩ : ∃ m : Int, m = (l.length : Int) := ⟨_, rfl⟩
  rw [← hm] at hw hV hB
  have hm0 : 1 ≤ m := by omega
  have hm1 : m ≤ 40 := by omega
  have hp0 : 0 ≤ (176 + 238 * m) * r := Int.mul_nonneg (by omega) hr0
  have hp1 : (176 + 238 * m) * r ≤ (176 + 238 * m) * 120772 := Int.mul_le_mul_of_nonneg_left hr1 (by omega)
  have hF : makeF l r = (((176 + 238 * m) * r + 1000 - 1) / 1000, 0) := by
    unfold makeF feeA
    rw [hw, inB_t (show 0 ≤ 176 + 238 * m ∧ 176 + 238 * m ≤ 4000000 by omega), inB_t (show 0 ≤ r ∧ r ≤ 1000000000 by omega)]
    simp only [Bool.and_self, if_true]
    unfold heldA
    rw [show money (((176 + 238 * m) * r + 1000 - 1) / 1000) = true from inB_t (by omega)]
    rfl
  obtain ⟨f, hf⟩ : ∃ f, f = ((176 + 238 * m) * r + 1000 - 1) / 1000 := ⟨_, rfl⟩
  have hf0 : 0 ≤ f := by omega
  have hf1 : f ≤ 50000 * m := by omega
  rw [← hf] at hF
  refine ⟨100000 * m - f, f, ?_⟩
  have hlk := likes_lock l 0 h (by omega) (by omega)
  have hT : txE (l.map Inp.tin) [⟨100000 * m - f, payS key⟩] (lockA l 0) = 0 := by
    rw [txE_good (by rw [List.length_map]; omega) (by simp) (by rw [List.length_map]; exact hl) (likes_ins l [] h ha) ?_ (inB_t (by omega))]
    · have m1 : money (100000 * m - f) = true := inB_t (by omega)
      have m0 : money 0 = true := by kernel_rfl
      simp only [List.map_cons, List.map_nil]
      unfold totalA addA heldA
      rw [m0, m1, Int.zero_add, m1]
      rfl
    · unfold outsOk scrB payS
      simp only [List.all_cons, List.all_nil, hk]
      rfl
  have h2 := makeA_yes (l := l) (rate := r) (key := key) hl hk (likes_ok h hD hD2) (by rw [hV, hF, hB]; simp only [not_or]; exact ⟨by simp, by omega, by omega⟩) (by rw [hV, hF]; exact hT)
  rw [hV, hF] at h2
  exact h2
theorem likes_fits {D next key : Int} {l : List Inp} (h : Likes D l) (hD : 0 ≤ D) (hD2 : D ≤ 1000000) (hl : 0 < l.length) (hl2 : l.length ≤ 40) (ha : apartP [] (l.map fun i => i.pt) = true) (hk : inB key 0 1073741824 = true) :
    ∃ v f : Int, fitsA 400000 key l (likeR D next) = some ⟨l.map Inp.tin, v, key, lockA l 0, f, likeR D next⟩ := by
  obtain ⟨v, f, hm⟩ := likes_make (next := next) h hD hD2 hl hl2 ha hk
  refine ⟨v, f, ?_⟩
  unfold fitsA
  rw [hm]
  have hw : weightT (l.map Inp.tin) 1 = 176 + 238 * (l.length : Int) := by
    unfold weightT
    rw [likes_weight l h, List.length_map]
    omega
  show (if weightT (l.map Inp.tin) 1 ≤ 400000 then _ else _) = _
  rw [hw, if_pos (by omega)]
theorem apart_app : ∀ (l m done : List Pt), apartP done (l ++ m) = true → apartP done l = true
  | [], _, _, _ => rfl
  | p :: l, m, done, h => by
    simp only [List.cons_append, apartP, Bool.and_eq_true] at h ⊢
    exact ⟨h.1, apart_app l m _ h.2⟩
/-- all of them in one batch -/
theorem likes_one {D next key : Int} : ∀ (l wi : List Inp) (ob : Option Bat), Likes D (wi ++ l) → 0 ≤ D → D ≤ 1000000 → 0 < wi.length → (wi ++ l).length ≤ 40 → apartP [] ((wi ++ l).map fun i => i.pt) = true → inB key 0 1073741824 = true → ob = fitsA 400000 key wi (likeR D next) →
    oneA next 400000 key (likeR D next) l ob wi [] = (fitsA 400000 key (wi ++ l) (likeR D next), [])
  | [], wi, ob, _, _, _, _, _, _, _, hob => by rw [List.append_nil, ← hob]; rfl
  | x :: l, wi, ob, h, hD, hD2, h0, hl, ha, hk, hob => by
    have hr := likeR_bd (D := D) (next := next) hD hD2
    have hx := like_rate (next := next) (h x (by simp)) hD hD2
    have e : wi ++ x :: l = (wi ++ [x]) ++ l := by simp
    have hf := likes_fits (next := next) (key := key) (l := wi ++ [x]) (fun j hj => h j (by rw [e]; exact List.mem_append_left _ hj)) hD hD2 (by simp) (by rw [e, List.length_append] at hl; omega) (by rw [e, List.map_append] at ha; exact apart_app _ _ _ ha) hk
    obtain ⟨v, f, hf⟩ := hf
    unfold oneA
    rw [hx, if_pos (by omega), hf]
    show oneA next 400000 key (likeR D next) l (some _) (wi ++ [x]) [] = _
    rw [likes_one l (wi ++ [x]) _ (by rw [← e]; exact h) hD hD2 (by simp) (by rw [← e]; exact hl) (by rw [← e]; exact ha) hk hf.symm, ← e]
theorem likes_all {D next key : Int} {l : List Inp} (h : Likes D l) (hD : 0 ≤ D) (hD2 : D ≤ 1000000) (hl2 : l.length ≤ 40) (ha : apartP [] (l.map fun i => i.pt) = true) (hk : inB key 0 1073741824 = true) :
    if l.length = 0 then allA next 400000 key l.length l = [] else ∃ v f r : Int, allA next 400000 key l.length l = [⟨l.map Inp.tin, v, key, lockA l 0, f, r⟩] := by
  cases l with
  | nil => simp [allA]
  | cons x l =>
    rw [if_neg (by simp)]
    have hx := like_rate (next := next) (h x (by simp)) hD hD2
    obtain ⟨v, f, hf⟩ := likes_fits (next := next) (key := key) h hD hD2 (by simp) hl2 ha hk
    have h1 := likes_one (next := next) (key := key) l [x] (fitsA 400000 key [x] (likeR D next)) h hD hD2 (by simp) hl2 ha hk rfl
    refine ⟨v, f, likeR D next, ?_⟩
    rw [allA_cons]
    have h2 : oneL next 400000 key x l = (fitsA 400000 key (x :: l) (likeR D next), []) := by
      unfold oneL
      rw [hx]
      exact h1
    rw [h2, hf]
    rfl

end Go.Proofs.Ytjlledljancafaa
