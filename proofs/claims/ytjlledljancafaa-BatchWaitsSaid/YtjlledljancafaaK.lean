/- Inputs sorted by insertion. -/
import Derived.Test.YtjlledljancafaaJ
import Derived.Test.YtjlledljancafaaK0
import Derived.Test.YtjlledljancafaaK1
import Derived.Deep.LoopGhost
import Derived.Shelf.RegionOpenPlain
set_option linter.unusedSimpArgs false
set_option linter.unusedVariables false
namespace Go.Proofs.Ytjlledljancafaa
open Go.RowKit Go.XB

theorem encInp_one (x : Inp) : ∀ v ∈ encInp x, v.oneCell' = true := by
  have : (encInp x).all Value.oneCell' = true := rfl
  simpa using this
def clo (nb : Nat) : Value := .func (.func 71) #[] #[.pointer (some ⟨nb, 0, none⟩)]
set_option maxRecDepth 100000 in
set_option maxHeartbeats 4000000 in
theorem insertion_any (l : List Inp) (tl : List Value) (t g n c a b nb : Nat) (next : Int) (hab : a ≤ b) (hbn : b ≤ n) (hn2 : n ≤ 1000000) (w : World) (hl : l.length = n) (hw0 : RowB w g t (l.flatMap encInp ++ tl)) (hn : RowAt w nb 0 [.int .i64 next]) (hnb : nb < w.heap.size) (hne : nb ≠ g) :
    Calls Try.prog 91 #[.slice (some ⟨g, 0, none⟩) n c, .int .i64 a, .int .i64 b, clo nb] w fun e w' => e = .returned (.tuple #[]) ∧ SM w g ((insUp (ordI next) a b (a + 1) l).flatMap encInp ++ tl) w' := by
  have HW0 := hidI (And.intro hw0 (And.intro hn (And.intro hnb hne)))
  have HL := hidI hl
  have aE : ∀ w, (isAgg 93).run Try.prog w = .ok true w := fun w => rfl
  have zE : ∀ w, (Go.sizeOf 93).run Try.prog w = .ok 44 w := fun w => rfl
  have mixed : Try.prog.follows .mixedOrders = true := by kernel_rfl
  clear hw0 hn hnb hne hl
  go_enter Try.func91, Try.ntmps91
  go_wp2
  go_loopg [8] (b - a) (fun g1 vi wr => ∃ (i : Nat) (dk : List Inp), vi = .int .i64 i ∧ a < i ∧ i ≤ b + 1 ∧ b + 1 - i ≤ g1 + 1 ∧ dk.length = n ∧ Hid (SM w g (dk.flatMap encInp ++ tl) wr) ∧ Hid (insUp (ordI next) a b i dk = insUp (ordI next) a b (a + 1) l))
  case atStart => exact ⟨a + 1, l, by go_num, by omega, by omega, by omega, HL.out, SM.start HW0.out.1, rfl⟩
  case round =>
    obtain ⟨i, dk, rfl, hai, hib, hg1, hdk, HS, HO⟩ := hrel
    by_cases hlt : i < b
    · have hltz : (i : Int) < (b : Int) := by omega
      go_wp2
      go_loopg [9] i (fun g2 vj wr2 => ∃ (j : Nat) (dj : List Inp), vj = .int .i64 j ∧ a ≤ j ∧ j ≤ i ∧ j ≤ g2 ∧ dj.length = n ∧ Hid (SM w g (dj.flatMap encInp ++ tl) wr2) ∧ Hid (insDn (ordI next) a j dj = insDn (ordI next) a i dk))
      case atStart => exact ⟨i, dk, rfl, by omega, Nat.le_refl _, Nat.le_refl _, hdk, HS, rfl⟩
      case round =>
        obtain ⟨j, dj, rfl, haj, hji, hg2, hdj, HS2, HI⟩ := hrel
        have hstop : (j ≤ a ∨ ∃ h : j < n, ∃ h1 : 0 < j, 0 ≤ ordI next (dj[j]'(by omega)) (dj[j - 1]'(by omega))) → Hid (insUp (ordI next) a b (i + 1) dj = insUp (ordI next) a b (a + 1) l) := fun hs => by
          show _ = _
          rw [← HO.out, insUp_go hlt, ← HI.out]
          rcases hs with hs | ⟨h, h1, hs⟩
          · rw [insDn_stop hs]
          · obtain ⟨jp, rfl⟩ : ∃ jp, j = jp + 1 := ⟨j - 1, by omega⟩
            rw [insDn_no (j := jp) (by omega) (Int.not_lt.2 hs)]
        have STOP := hidI hstop
        clear hstop
        by_cases hja : a < j
        · have hjaz : (a : Int) < (j : Int) := by omega
          obtain ⟨jp, rfl⟩ : ∃ jp, j = jp + 1 := ⟨j - 1, by omega⟩
          have hlj : jp + 1 < dj.length := by omega
          obtain ⟨xj, hxj⟩ : ∃ x, dj[jp + 1] = x := ⟨_, rfl⟩
          obtain ⟨xp, hxp⟩ : ∃ x, dj[jp]'(by omega) = x := ⟨_, rfl⟩
          have hb0 : RowB wr g t (dj.flatMap encInp ++ tl) := SM.row HS2.out HW0.out.1
          have HB := hidI hb0
          have HXj := hidI (show ∀ w1 : World, RowB w1 g t (dj.flatMap encInp ++ tl) → RowAt w1 g ((jp + 1) * 44) (encInp xj) from fun w1 h => by rw [← hxj]; exact h.elem encInp_length hlj)
          have HXp := hidI (show ∀ w1 : World, RowB w1 g t (dj.flatMap encInp ++ tl) → RowAt w1 g (jp * 44) (encInp xp) from fun w1 h => by rw [← hxp]; exact h.elem encInp_length (by omega))
          have hnbw : nb < wr.heap.size := Nat.lt_of_lt_of_le HW0.out.2.2.1 HS2.out.size
          have HNW := hidI (show RowAt wr.drew nb 0 [.int .i64 next] from HW0.out.2.1.mono (HS2.out.other HW0.out.2.2.1 HW0.out.2.2.2))
          have hw1 : wrap64 ((jp : Int) + 1 - 1) = (jp : Int) := by unfold wrap64; omega
          have hw7 : IntKind.i64.wrap (jp : Int) = (jp : Int) := by rw [IntKind.wrap_i64]; omega
          have hw2 : (0 : Int) ≤ (jp : Int) + 1 := by omega
          have hw3 : (jp : Int) + 1 < (n : Int) := by omega
          have hw4 : ((jp : Int) + 1).toNat = jp + 1 := by omega
          have hw5 : (jp : Int) < (n : Int) := by omega
          have hw6 : (a : Int) < (jp : Int) + 1 := by omega
          clear hb0
          by_cases hlv : ordI next xj xp < 0
          · have HV := hidI (decide_eq_true hlv)
            go_wp2_with fail
            refine wp_region_p _ [[], [], [0, 1], [2], [3], [3], [3], [3, 5, 6], [3, 7], [3], [3], [3, 10], [3, 9, 11], [3, 12], [3, 4, 8, 13], [3, 14], [3, 15]] Ext (fun ix v w' => match ix with | 0 => v = .int .i64 ((jp : Int) + 1) | 1 => v = .int .i64 a | 2 => v = .bool true | 3 => v = .bool true | 4 => v = clo nb | 5 => v = .slice (some ⟨g, 0, none⟩) n c | 6 => v = .int .i64 ((jp : Int) + 1) | 7 => v = .pointer (some ⟨g, (jp + 1) * 44, none⟩) | 8 => v = .agg (encInp xj).toArray | 9 => v = .slice (some ⟨g, 0, none⟩) n c | 10 => v = .int .i64 ((jp : Int) + 1) | 11 => v = .int .i64 jp | 12 => v = .pointer (some ⟨g, jp * 44, none⟩) | 13 => v = .agg (encInp xp).toArray | 14 => v = .int .i64 (ordI next xj xp) | 15 => v = .bool (decide (ordI next xj xp < 0)) | 16 => v = .bool (decide (ordI next xj xp < 0)) | _ => True) (by kernel_rfl) (by kernel_rfl) (by kernel_rfl) (by kernel_rfl) (fun vs => by simp only [putAll, Act.put, List.setIfInBounds_toArray, List.set_cons_zero, List.set_cons_succ]; rfl) (fun w => Ext.refl w) (fun _ _ _ h k => Ext.trans h k) ?stab ?steps ?fin
            case stab =>
              intro i v w1 w2 hv hr
              exact hv
            case steps =>
              simp only [StepAllP, List.headD, List.tail, AllV]
              refine ⟨?_, ?_, ?_, ?_, ?_, ?_, ?_, ?_, ?_, ?_, ?_, ?_, ?_, ?_, ?_, ?_, ?_, trivial⟩
              · intro vs w1 hR hp; have hcl := (bcell hR).1
                refine step_value (v := .int .i64 ((jp : Int) + 1)) (by simp [go_sem, hcl, hw1, hw2, hw3, hw4, hw5, hw6, hw7, clo]) (by rfl) (Ext.refl _) rfl
              · intro vs w1 hR hp; have hcl := (bcell hR).1
                refine step_value (v := .int .i64 a) (by simp [go_sem, hcl, hw1, hw2, hw3, hw4, hw5, hw6, hw7, clo]) (by rfl) (Ext.refl _) rfl
              · intro vs w1 hR hp; have hcl := (bcell hR).1; obtain ⟨p0, p1, _⟩ := hp
                refine step_value (v := .bool true) (by simp [go_sem, hcl, p0, p1, hw1, hw2, hw3, hw4, hw5, hw6, hw7, clo]) (by rfl) (Ext.refl _) rfl
              · intro vs w1 hR hp; have hcl := (bcell hR).1; obtain ⟨p2, _⟩ := hp
                refine step_value (v := .bool true) (by simp [go_sem, hcl, p2, hw1, hw2, hw3, hw4, hw5, hw6, hw7, clo]) (by rfl) (Ext.refl _) rfl
              · intro vs w1 hR hp; have hcl := (bcell hR).1; obtain ⟨p3, _⟩ := hp
                refine step_value (v := clo nb) (by simp [go_sem, hcl, p3, hw1, hw2, hw3, hw4, hw5, hw6, hw7, clo]) (by simp [Region.wanted, yielded, p3]) (Ext.refl _) rfl
              · intro vs w1 hR hp; have hcl := (bcell hR).1; obtain ⟨p3, _⟩ := hp
                refine step_value (v := .slice (some ⟨g, 0, none⟩) n c) (by simp [go_sem, hcl, p3, hw1, hw2, hw3, hw4, hw5, hw6, hw7, clo]) (by simp [Region.wanted, yielded, p3]) (Ext.refl _) rfl
              · intro vs w1 hR hp; have hcl := (bcell hR).1; obtain ⟨p3, _⟩ := hp
                refine step_value (v := .int .i64 ((jp : Int) + 1)) (by simp [go_sem, hcl, p3, hw1, hw2, hw3, hw4, hw5, hw6, hw7, clo]) (by simp [Region.wanted, yielded, p3]) (Ext.refl _) rfl
              · intro vs w1 hR hp; have hcl := (bcell hR).1; obtain ⟨p3, p5, p6, _⟩ := hp
                refine step_value (v := .pointer (some ⟨g, (jp + 1) * 44, none⟩)) (by simp [go_sem, hcl, p3, p5, p6, hw1, hw2, hw3, hw4, hw5, hw6, hw7, clo]) (by simp [Region.wanted, yielded, p3, p5, p6]) (Ext.refl _) rfl
              · intro vs w1 hR hp; have hcl := (bcell hR).1; obtain ⟨p3, p7, _⟩ := hp
                have hrow := RowB.below (w := wr.drew) HB.out hR
                refine step_value (exec_load_agg (b := g) (off := (jp + 1) * 44) rfl (by simp [go_sem, p7]) agg_inp (encInp_length xj) (HXj.out w1 hrow)) (by simp [Region.wanted, yielded, p3]) (Ext.refl _) rfl
              · intro vs w1 hR hp; have hcl := (bcell hR).1; obtain ⟨p3, _⟩ := hp
                refine step_value (v := .slice (some ⟨g, 0, none⟩) n c) (by simp [go_sem, hcl, p3, hw1, hw2, hw3, hw4, hw5, hw6, hw7, clo]) (by simp [Region.wanted, yielded, p3]) (Ext.refl _) rfl
              · intro vs w1 hR hp; have hcl := (bcell hR).1; obtain ⟨p3, _⟩ := hp
                refine step_value (v := .int .i64 ((jp : Int) + 1)) (by simp [go_sem, hcl, p3, hw1, hw2, hw3, hw4, hw5, hw6, hw7, clo]) (by simp [Region.wanted, yielded, p3]) (Ext.refl _) rfl
              · intro vs w1 hR hp; have hcl := (bcell hR).1; obtain ⟨p3, p10, _⟩ := hp
                refine step_value (v := .int .i64 jp) (by simp [go_sem, hcl, p3, p10, hw1, hw2, hw3, hw4, hw5, hw6, hw7, clo]) (by simp [Region.wanted, yielded, p3, p10]) (Ext.refl _) rfl
              · intro vs w1 hR hp; have hcl := (bcell hR).1; obtain ⟨p3, p9, p11, _⟩ := hp
                refine step_value (v := .pointer (some ⟨g, jp * 44, none⟩)) (by simp [go_sem, hcl, p3, p9, p11, hw1, hw2, hw3, hw4, hw5, hw6, hw7, clo]) (by simp [Region.wanted, yielded, p3, p9, p11]) (Ext.refl _) rfl
              · intro vs w1 hR hp; have hcl := (bcell hR).1; obtain ⟨p3, p12, _⟩ := hp
                have hrow := RowB.below (w := wr.drew) HB.out hR
                refine step_value (exec_load_agg (b := g) (off := jp * 44) rfl (by simp [go_sem, p12]) agg_inp (encInp_length xp) (HXp.out w1 hrow)) (by simp [Region.wanted, yielded, p3]) (Ext.refl _) rfl
              · intro vs w1 hR hp; have hcl := (bcell hR).1; obtain ⟨p3, p4, p8, p13, _⟩ := hp
                have hnx : RowAt w1 nb 0 [.int .i64 next] := HNW.out.mono (hR.block nb hnbw)
                refine step_call (f := 71) (args := #[.agg (encInp xj).toArray, .agg (encInp xp).toArray, .pointer (some ⟨nb, 0, none⟩)]) (w' := w1) (by simp [go_sem, p4, p8, p13, clo]) (by simp [Region.wanted, yielded, p3]) (byrate_any xj xp next nb w1 hnx (Nat.lt_of_lt_of_le hnbw hR.size)) (fun e w2 hc => ?_)
                obtain ⟨rfl, hb2⟩ := hc
                exact ⟨_, rfl, hb2, rfl⟩
              · intro vs w1 hR hp; have hcl := (bcell hR).1; obtain ⟨p3, p14, _⟩ := hp
                refine step_value (v := .bool (decide (ordI next xj xp < 0))) (by simp [go_sem, hcl, p3, p14, hw1, hw2, hw3, hw4, hw5, hw6, hw7, clo]) (by simp [Region.wanted, yielded, p3, p14]) (Ext.refl _) rfl
              · intro vs w1 hR hp; have hcl := (bcell hR).1; obtain ⟨p3, p15, _⟩ := hp
                refine step_value (v := .bool (decide (ordI next xj xp < 0))) (by simp [go_sem, hcl, p3, p15, hw1, hw2, hw3, hw4, hw5, hw6, hw7, clo]) (by rfl) (Ext.refl _) rfl
            case fin =>
              simp only [List.length_cons, List.length_nil, Nat.reduceAdd, List.range_succ, List.range_zero, List.nil_append, List.cons_append, AllV]
              intro vs w1 hR hp
              obtain ⟨p0, p1, p2, p3, p4, p5, p6, p7, p8, p9, p10, p11, p12, p13, p14, p15, p16, _⟩ := hp
              simp only [p0, p1, p2, p3, p4, p5, p6, p7, p8, p9, p10, p11, p12, p13, p14, p15, p16]
              have hd := HV.out
              simp only [hd]
              go_wp2_with fail
              have hr0 : RowB w1 g t (dj.flatMap encInp ++ tl) := RowB.below (w := wr.drew) HB.out hR
              have hr1 : RowB w1.drew g t (dj.flatMap encInp ++ tl) := hr0
              have s1 := RowB.store Try.prog encInp_length encInp_one hr1 hlj xp
              have hr2 := hr1.set ((dj.set (jp + 1) xp).flatMap encInp ++ tl)
              have s2 := RowB.store Try.prog encInp_length encInp_one hr2 (i := jp) (by simp; omega) xj
              have HR1 := hidI hr1
              have HD2 := hidI (show ((dj.set (jp + 1) xp).set jp xj) = swapA dj jp by rw [swapA_eq hlj, hxj, hxp])
              obtain ⟨rowA, hrA⟩ : ∃ r, r = (List.flatMap encInp (dj.set (jp + 1) xp) ++ tl).toArray := ⟨_, rfl⟩
              obtain ⟨rowB, hrB⟩ : ∃ r, r = (List.flatMap encInp ((dj.set (jp + 1) xp).set jp xj) ++ tl).toArray := ⟨_, rfl⟩
              rw [← hrA] at s1 s2
              rw [← hrB] at s2
              have HRA := hidI (And.intro hrA hrB)
              have SMO := hidI (HS2.out.drew.call hR)
              have HS1 := hidI s1
              have HS22 := hidI s2
              clear hr0 hr1 hr2 hrA hrB hd s1 s2
              refine wp_region_two _ [[], [], [], [], [3], [], [], [6], [5, 7], [8], [], [], [10, 11], [12], [0, 1], [9, 14], [2, 4], [13, 16]] (fun ix v _ => match ix with | 0 => v = .slice (some ⟨g, 0, none⟩) n c | 1 => v = .int .i64 ((jp : Int) + 1) | 2 => v = .slice (some ⟨g, 0, none⟩) n c | 3 => v = .int .i64 ((jp : Int) + 1) | 4 => v = .int .i64 jp | 5 => v = .slice (some ⟨g, 0, none⟩) n c | 6 => v = .int .i64 ((jp : Int) + 1) | 7 => v = .int .i64 jp | 8 => v = .pointer (some ⟨g, jp * 44, none⟩) | 9 => v = .agg (encInp xp).toArray | 10 => v = .slice (some ⟨g, 0, none⟩) n c | 11 => v = .int .i64 ((jp : Int) + 1) | 12 => v = .pointer (some ⟨g, (jp + 1) * 44, none⟩) | 13 => v = .agg (encInp xj).toArray | 14 => v = .pointer (some ⟨g, (jp + 1) * 44, none⟩) | 15 => v = undef | 16 => v = .pointer (some ⟨g, jp * 44, none⟩) | 17 => v = undef | _ => True) 15 17 (w1.drew.setRow g rowA) ((w1.drew.setRow g rowA).setRow g rowB) (by kernel_rfl) (by kernel_rfl) (by kernel_rfl) (by kernel_rfl) (by kernel_rfl) (by decide) (by decide) (by decide) (fun vs => by simp only [putAll, Act.put, List.setIfInBounds_toArray, List.set_cons_zero, List.set_cons_succ]; rfl) (fun _ _ _ _ h => h) ?steps ?fin
              case steps =>
                simp only [StepAllP, List.headD, List.tail, AllV]
                refine ⟨?_, ?_, ?_, ?_, ?_, ?_, ?_, ?_, ?_, ?_, ?_, ?_, ?_, ?_, ?_, ?_, ?_, ?_, trivial⟩
                · intro vs w3 hst hp
                  exact two_value (v := .slice (some ⟨g, 0, none⟩) n c) (by simp [go_sem, hw1, hw2, hw3, hw4, hw5, hw6, hw7]) (by rfl) (by decide) (by decide) rfl
                · intro vs w3 hst hp
                  exact two_value (v := .int .i64 ((jp : Int) + 1)) (by simp [go_sem, hw1, hw2, hw3, hw4, hw5, hw6, hw7]) (by rfl) (by decide) (by decide) rfl
                · intro vs w3 hst hp
                  exact two_value (v := .slice (some ⟨g, 0, none⟩) n c) (by simp [go_sem, hw1, hw2, hw3, hw4, hw5, hw6, hw7]) (by rfl) (by decide) (by decide) rfl
                · intro vs w3 hst hp
                  exact two_value (v := .int .i64 ((jp : Int) + 1)) (by simp [go_sem, hw1, hw2, hw3, hw4, hw5, hw6, hw7]) (by rfl) (by decide) (by decide) rfl
                · intro vs w3 hst hp; obtain ⟨p3, _⟩ := hp
                  exact two_value (v := .int .i64 jp) (by simp [go_sem, p3, hw1, hw2, hw3, hw4, hw5, hw6, hw7]) (by rfl) (by decide) (by decide) rfl
                · intro vs w3 hst hp
                  exact two_value (v := .slice (some ⟨g, 0, none⟩) n c) (by simp [go_sem, hw1, hw2, hw3, hw4, hw5, hw6, hw7]) (by rfl) (by decide) (by decide) rfl
                · intro vs w3 hst hp
                  exact two_value (v := .int .i64 ((jp : Int) + 1)) (by simp [go_sem, hw1, hw2, hw3, hw4, hw5, hw6, hw7]) (by rfl) (by decide) (by decide) rfl
                · intro vs w3 hst hp; obtain ⟨p6, _⟩ := hp
                  exact two_value (v := .int .i64 jp) (by simp [go_sem, p6, hw1, hw2, hw3, hw4, hw5, hw6, hw7]) (by rfl) (by decide) (by decide) rfl
                · intro vs w3 hst hp; obtain ⟨p5, p7, _⟩ := hp
                  exact two_value (v := .pointer (some ⟨g, jp * 44, none⟩)) (by simp [go_sem, p5, p7, hw1, hw2, hw3, hw4, hw5, hw6, hw7]) (by rfl) (by decide) (by decide) rfl
                · intro vs w3 hst hp; obtain ⟨p8, _⟩ := hp
                  obtain rfl := stage_first hst (by decide) (by decide) (by kernel_rfl)
                  exact two_value (exec_load_agg (b := g) (off := jp * 44) rfl (by simp [go_sem, p8]) agg_inp (encInp_length xp) (HXp.out _ HR1.out)) (by rfl) (by decide) (by decide) rfl
                · intro vs w3 hst hp
                  exact two_value (v := .slice (some ⟨g, 0, none⟩) n c) (by simp [go_sem, hw1, hw2, hw3, hw4, hw5, hw6, hw7]) (by rfl) (by decide) (by decide) rfl
                · intro vs w3 hst hp
                  exact two_value (v := .int .i64 ((jp : Int) + 1)) (by simp [go_sem, hw1, hw2, hw3, hw4, hw5, hw6, hw7]) (by rfl) (by decide) (by decide) rfl
                · intro vs w3 hst hp; obtain ⟨p10, p11, _⟩ := hp
                  exact two_value (v := .pointer (some ⟨g, (jp + 1) * 44, none⟩)) (by simp [go_sem, p10, p11, hw1, hw2, hw3, hw4, hw5, hw6, hw7]) (by rfl) (by decide) (by decide) rfl
                · intro vs w3 hst hp; obtain ⟨p12, _⟩ := hp
                  obtain rfl := stage_first hst (by decide) (by decide) (by kernel_rfl)
                  exact two_value (exec_load_agg (b := g) (off := (jp + 1) * 44) rfl (by simp [go_sem, p12]) agg_inp (encInp_length xj) (HXj.out _ HR1.out)) (by rfl) (by decide) (by decide) rfl
                · intro vs w3 hst hp; obtain ⟨p0, p1, _⟩ := hp
                  exact two_value (v := .pointer (some ⟨g, (jp + 1) * 44, none⟩)) (by simp [go_sem, p0, p1, hw1, hw2, hw3, hw4, hw5, hw6, hw7]) (by rfl) (by decide) (by decide) rfl
                · intro vs w3 hst hp; obtain ⟨p9, p14, _⟩ := hp
                  obtain rfl := stage_s1 hst
                  exact two_store (cs := encInp xp) rfl rfl (by simp [go_sem, p14]) (by simp [go_sem, p9]) sz_inp (encInp_length xp) HS1.out (by rfl) rfl rfl
                · intro vs w3 hst hp; obtain ⟨p2, p4, _⟩ := hp
                  exact two_value (v := .pointer (some ⟨g, jp * 44, none⟩)) (by simp [go_sem, p2, p4, hw1, hw2, hw3, hw4, hw5, hw6, hw7]) (by rfl) (by decide) (by decide) rfl
                · intro vs w3 hst hp; obtain ⟨p13, p16, _⟩ := hp
                  obtain rfl := stage_s2 (by decide) hst
                  exact two_store (cs := encInp xj) rfl rfl (by simp [go_sem, p16]) (by simp [go_sem, p13]) sz_inp (encInp_length xj) HS22.out (by rfl) rfl rfl
              case fin =>
                simp only [List.length_cons, List.length_nil, Nat.reduceAdd, List.range_succ, List.range_zero, List.nil_append, List.cons_append, AllV]
                intro vs hp
                obtain ⟨p0, p1, p2, p3, p4, p5, p6, p7, p8, p9, p10, p11, p12, p13, p14, p15, p16, p17, _⟩ := hp
                simp only [p0, p1, p2, p3, p4, p5, p6, p7, p8, p9, p10, p11, p12, p13, p14, p16]
                go_wp2
                go_roundg jp
                case measure => omega
                case rel => exact ⟨jp, swapA dj jp, by first | rfl | go_num, by omega, by omega, Nat.le_refl _, by rw [swapA_length]; exact hdj, by have := (SMO.out.drew.store ((dj.set (jp + 1) xp).flatMap encInp ++ tl)).store (((dj.set (jp + 1) xp).set jp xj).flatMap encInp ++ tl); rw [← HRA.out.1, ← HRA.out.2, HD2.out] at this; exact this, by have hh := HI.out; rw [insDn_go hlj hja (by rw [hxj, hxp]; exact of_decide_eq_true HV.out)] at hh; exact hh⟩

          · have HV := hidI (decide_eq_false hlv)
            go_wp2_with fail
            refine wp_region_p _ [[], [], [0, 1], [2], [3], [3], [3], [3, 5, 6], [3, 7], [3], [3], [3, 10], [3, 9, 11], [3, 12], [3, 4, 8, 13], [3, 14], [3, 15]] Ext (fun ix v w' => match ix with | 0 => v = .int .i64 ((jp : Int) + 1) | 1 => v = .int .i64 a | 2 => v = .bool true | 3 => v = .bool true | 4 => v = clo nb | 5 => v = .slice (some ⟨g, 0, none⟩) n c | 6 => v = .int .i64 ((jp : Int) + 1) | 7 => v = .pointer (some ⟨g, (jp + 1) * 44, none⟩) | 8 => v = .agg (encInp xj).toArray | 9 => v = .slice (some ⟨g, 0, none⟩) n c | 10 => v = .int .i64 ((jp : Int) + 1) | 11 => v = .int .i64 jp | 12 => v = .pointer (some ⟨g, jp * 44, none⟩) | 13 => v = .agg (encInp xp).toArray | 14 => v = .int .i64 (ordI next xj xp) | 15 => v = .bool (decide (ordI next xj xp < 0)) | 16 => v = .bool (decide (ordI next xj xp < 0)) | _ => True) (by kernel_rfl) (by kernel_rfl) (by kernel_rfl) (by kernel_rfl) (fun vs => by simp only [putAll, Act.put, List.setIfInBounds_toArray, List.set_cons_zero, List.set_cons_succ]; rfl) (fun w => Ext.refl w) (fun _ _ _ h k => Ext.trans h k) ?stab ?steps ?fin
            case stab =>
              intro i v w1 w2 hv hr
              exact hv
            case steps =>
              simp only [StepAllP, List.headD, List.tail, AllV]
              refine ⟨?_, ?_, ?_, ?_, ?_, ?_, ?_, ?_, ?_, ?_, ?_, ?_, ?_, ?_, ?_, ?_, ?_, trivial⟩
              · intro vs w1 hR hp; have hcl := (bcell hR).1
                refine step_value (v := .int .i64 ((jp : Int) + 1)) (by simp [go_sem, hcl, hw1, hw2, hw3, hw4, hw5, hw6, hw7, clo]) (by rfl) (Ext.refl _) rfl
              · intro vs w1 hR hp; have hcl := (bcell hR).1
                refine step_value (v := .int .i64 a) (by simp [go_sem, hcl, hw1, hw2, hw3, hw4, hw5, hw6, hw7, clo]) (by rfl) (Ext.refl _) rfl
              · intro vs w1 hR hp; have hcl := (bcell hR).1; obtain ⟨p0, p1, _⟩ := hp
                refine step_value (v := .bool true) (by simp [go_sem, hcl, p0, p1, hw1, hw2, hw3, hw4, hw5, hw6, hw7, clo]) (by rfl) (Ext.refl _) rfl
              · intro vs w1 hR hp; have hcl := (bcell hR).1; obtain ⟨p2, _⟩ := hp
                refine step_value (v := .bool true) (by simp [go_sem, hcl, p2, hw1, hw2, hw3, hw4, hw5, hw6, hw7, clo]) (by rfl) (Ext.refl _) rfl
              · intro vs w1 hR hp; have hcl := (bcell hR).1; obtain ⟨p3, _⟩ := hp
                refine step_value (v := clo nb) (by simp [go_sem, hcl, p3, hw1, hw2, hw3, hw4, hw5, hw6, hw7, clo]) (by simp [Region.wanted, yielded, p3]) (Ext.refl _) rfl
              · intro vs w1 hR hp; have hcl := (bcell hR).1; obtain ⟨p3, _⟩ := hp
                refine step_value (v := .slice (some ⟨g, 0, none⟩) n c) (by simp [go_sem, hcl, p3, hw1, hw2, hw3, hw4, hw5, hw6, hw7, clo]) (by simp [Region.wanted, yielded, p3]) (Ext.refl _) rfl
              · intro vs w1 hR hp; have hcl := (bcell hR).1; obtain ⟨p3, _⟩ := hp
                refine step_value (v := .int .i64 ((jp : Int) + 1)) (by simp [go_sem, hcl, p3, hw1, hw2, hw3, hw4, hw5, hw6, hw7, clo]) (by simp [Region.wanted, yielded, p3]) (Ext.refl _) rfl
              · intro vs w1 hR hp; have hcl := (bcell hR).1; obtain ⟨p3, p5, p6, _⟩ := hp
                refine step_value (v := .pointer (some ⟨g, (jp + 1) * 44, none⟩)) (by simp [go_sem, hcl, p3, p5, p6, hw1, hw2, hw3, hw4, hw5, hw6, hw7, clo]) (by simp [Region.wanted, yielded, p3, p5, p6]) (Ext.refl _) rfl
              · intro vs w1 hR hp; have hcl := (bcell hR).1; obtain ⟨p3, p7, _⟩ := hp
                have hrow := RowB.below (w := wr.drew) HB.out hR
                refine step_value (exec_load_agg (b := g) (off := (jp + 1) * 44) rfl (by simp [go_sem, p7]) agg_inp (encInp_length xj) (HXj.out w1 hrow)) (by simp [Region.wanted, yielded, p3]) (Ext.refl _) rfl
              · intro vs w1 hR hp; have hcl := (bcell hR).1; obtain ⟨p3, _⟩ := hp
                refine step_value (v := .slice (some ⟨g, 0, none⟩) n c) (by simp [go_sem, hcl, p3, hw1, hw2, hw3, hw4, hw5, hw6, hw7, clo]) (by simp [Region.wanted, yielded, p3]) (Ext.refl _) rfl
              · intro vs w1 hR hp; have hcl := (bcell hR).1; obtain ⟨p3, _⟩ := hp
                refine step_value (v := .int .i64 ((jp : Int) + 1)) (by simp [go_sem, hcl, p3, hw1, hw2, hw3, hw4, hw5, hw6, hw7, clo]) (by simp [Region.wanted, yielded, p3]) (Ext.refl _) rfl
              · intro vs w1 hR hp; have hcl := (bcell hR).1; obtain ⟨p3, p10, _⟩ := hp
                refine step_value (v := .int .i64 jp) (by simp [go_sem, hcl, p3, p10, hw1, hw2, hw3, hw4, hw5, hw6, hw7, clo]) (by simp [Region.wanted, yielded, p3, p10]) (Ext.refl _) rfl
              · intro vs w1 hR hp; have hcl := (bcell hR).1; obtain ⟨p3, p9, p11, _⟩ := hp
                refine step_value (v := .pointer (some ⟨g, jp * 44, none⟩)) (by simp [go_sem, hcl, p3, p9, p11, hw1, hw2, hw3, hw4, hw5, hw6, hw7, clo]) (by simp [Region.wanted, yielded, p3, p9, p11]) (Ext.refl _) rfl
              · intro vs w1 hR hp; have hcl := (bcell hR).1; obtain ⟨p3, p12, _⟩ := hp
                have hrow := RowB.below (w := wr.drew) HB.out hR
                refine step_value (exec_load_agg (b := g) (off := jp * 44) rfl (by simp [go_sem, p12]) agg_inp (encInp_length xp) (HXp.out w1 hrow)) (by simp [Region.wanted, yielded, p3]) (Ext.refl _) rfl
              · intro vs w1 hR hp; have hcl := (bcell hR).1; obtain ⟨p3, p4, p8, p13, _⟩ := hp
                have hnx : RowAt w1 nb 0 [.int .i64 next] := HNW.out.mono (hR.block nb hnbw)
                refine step_call (f := 71) (args := #[.agg (encInp xj).toArray, .agg (encInp xp).toArray, .pointer (some ⟨nb, 0, none⟩)]) (w' := w1) (by simp [go_sem, p4, p8, p13, clo]) (by simp [Region.wanted, yielded, p3]) (byrate_any xj xp next nb w1 hnx (Nat.lt_of_lt_of_le hnbw hR.size)) (fun e w2 hc => ?_)
                obtain ⟨rfl, hb2⟩ := hc
                exact ⟨_, rfl, hb2, rfl⟩
              · intro vs w1 hR hp; have hcl := (bcell hR).1; obtain ⟨p3, p14, _⟩ := hp
                refine step_value (v := .bool (decide (ordI next xj xp < 0))) (by simp [go_sem, hcl, p3, p14, hw1, hw2, hw3, hw4, hw5, hw6, hw7, clo]) (by simp [Region.wanted, yielded, p3, p14]) (Ext.refl _) rfl
              · intro vs w1 hR hp; have hcl := (bcell hR).1; obtain ⟨p3, p15, _⟩ := hp
                refine step_value (v := .bool (decide (ordI next xj xp < 0))) (by simp [go_sem, hcl, p3, p15, hw1, hw2, hw3, hw4, hw5, hw6, hw7, clo]) (by rfl) (Ext.refl _) rfl
            case fin =>
              simp only [List.length_cons, List.length_nil, Nat.reduceAdd, List.range_succ, List.range_zero, List.nil_append, List.cons_append, AllV]
              intro vs w1 hR hp
              obtain ⟨p0, p1, p2, p3, p4, p5, p6, p7, p8, p9, p10, p11, p12, p13, p14, p15, p16, _⟩ := hp
              simp only [p0, p1, p2, p3, p4, p5, p6, p7, p8, p9, p10, p11, p12, p13, p14, p15, p16]
              have hd := HV.out
              simp only [hd]
              go_wp2
              go_roundg (b - (i + 1))
              case measure => omega
              case rel => exact ⟨i + 1, dj, by go_num, by omega, by omega, by omega, hdj, HS2.out.drew.call hR, STOP.out (Or.inr ⟨by omega, by omega, by have hz := of_decide_eq_false HV.out; rw [← hxj, ← hxp] at hz; exact Int.not_lt.1 hz⟩)⟩

        · have hjaz : decide ((j : Int) > (a : Int)) = false := decide_eq_false (by omega)
          have hjaz' : ¬ (a : Int) < (j : Int) := by omega
          go_wp2_with fail
          go_big_region_o
          all_goals go_wp2
          go_roundg (b - (i + 1))
          case measure => omega
          case rel => exact ⟨i + 1, dj, by go_num, by omega, by omega, by omega, hdj, HS2.out.drew, STOP.out (Or.inl (by omega))⟩
    · have hltz : ¬ (i : Int) < (b : Int) := by omega
      go_wp2
      go_end0
      exact ⟨rfl, by rw [← HO.out, insUp_stop hlt]; exact HS.out⟩


end Go.Proofs.Ytjlledljancafaa
