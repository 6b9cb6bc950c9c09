/- The plain law of ItemForward: whatever is done, an item never comes less far than it was. Conditions: none. -/
import Derived.Test.YtpkfagbllafehaaRdItemForward
namespace Go.Proofs.Ytpkfagbllafehaa.Pure
open Go.RowKit Go.Proofs.YtpkfagbllafehaaW.PrintWords Go.Proofs.YtpkfagbllafehaaW.PrintLast Go.Proofs.Ytpkfagbllafehaa.QItem Go.Proofs.Ytpkfagbllafehaa.RdItemForward

/-- What an item that can be is. -/
structure Ok (x0 x1 x2 x3 x4 x5 x6 x7 : Int) : Prop where
  r5 : 0 ≤ x5 ∧ x5 ≤ 3
  s : 1 ≤ x6 ∧ x6 ≤ 5

def rank (x5 x6 : Int) : Int := if x6 = 1 then 2 * x5 else if x6 = 2 then 2 * x5 + 1 else if x6 = 5 then 9 else 8

theorem rank_some (k : Nat) {x0 x1 x2 x3 x4 x5 x6 x7 : Int} (h : Ok x0 x1 x2 x3 x4 x5 x6 x7) : item_Rank.f (k + 1) x0 x1 x2 x3 x4 x5 x6 x7 = some (rank x5 x6) := by
  obtain ⟨⟨h1, h2⟩, h3, h4⟩ := h
  unfold item_Rank.f rank
  have w1 : wrap64 (2 * x5) = 2 * x5 := by unfold wrap64; omega
  have w2 : wrap64 (2 * x5 + 1) = 2 * x5 + 1 := by unfold wrap64; omega
  rw [w1, w2]
  simp only [item_Rank.j0]
  (repeat' split) <;> first | rfl | (simp_all; omega) | (simp_all; done) | omega

theorem in_some (a b c : Int) : contraref09_in.f a b c = some (decide (b ≤ a ∧ a ≤ c)) := by
  unfold contraref09_in.f
  by_cases h : a ≥ b
  · have h' : b ≤ a := h
    simp [h]
  · have h' : ¬ b ≤ a := h
    simp [h]

theorem j1_ok (k : Nat) (b : Bool) {x0 x1 x2 x3 x4 x5 x6 x7 : Int} : ∃ r, contraref09_Check.j1 (k + 1) b x0 x1 x2 x3 x4 x5 x6 x7 = some r ∧ (r = 0 → b = false) := by
  simp only [contraref09_Check.j1]
  cases b
  · rw [if_neg (by decide)]
    (repeat' split) <;> exact ⟨_, rfl, fun _ => rfl⟩
  · rw [if_pos rfl]
    exact ⟨_, rfl, fun h => absurd h (by decide)⟩

theorem j0_ok (k : Nat) (b : Bool) {x0 x1 x2 x3 x4 x5 x6 x7 : Int} : ∃ r, contraref09_Check.j0 (k + 2) b x0 x1 x2 x3 x4 x5 x6 x7 = some r ∧ (r = 0 → Ok x0 x1 x2 x3 x4 x5 x6 x7) := by
  simp only [contraref09_Check.j0]
  cases b
  · rw [if_neg (by decide)]
    simp only [in_some, Option.bind_some]
    obtain ⟨r1, e1, g1⟩ := j1_ok k true (x0 := x0) (x1 := x1) (x2 := x2) (x3 := x3) (x4 := x4) (x5 := x5) (x6 := x6) (x7 := x7)
    have g1' : r1 = 0 → Ok x0 x1 x2 x3 x4 x5 x6 x7 := fun h => absurd (g1 h) (by decide)
    split
    · split
      · split
        · rename_i _ h5 h6
          obtain ⟨r, e, _⟩ := j1_ok k (!decide (0 ≤ x7 ∧ x7 ≤ 1048576)) (x0 := x0) (x1 := x1) (x2 := x2) (x3 := x3) (x4 := x4) (x5 := x5) (x6 := x6) (x7 := x7)
          exact ⟨r, e, fun _ => ⟨of_decide_eq_true h5, of_decide_eq_true h6⟩⟩
        · exact ⟨r1, e1, g1'⟩
      · exact ⟨r1, e1, g1'⟩
    · exact ⟨r1, e1, g1'⟩
  · rw [if_pos rfl]
    exact ⟨_, rfl, fun h => absurd h (by decide)⟩

theorem check_ok (k : Nat) {x0 x1 x2 x3 x4 x5 x6 x7 : Int} : ∃ r, contraref09_Check.f (k + 2) x0 x1 x2 x3 x4 x5 x6 x7 = some r ∧ (r = 0 → Ok x0 x1 x2 x3 x4 x5 x6 x7) := by
  unfold contraref09_Check.f
  simp only [in_some, Option.bind_some]
  (repeat' split) <;> exact j0_ok k _

theorem act_ok (k : Nat) {x0 x1 x2 x3 x4 x5 x6 x7 : Int} (h : Ok x0 x1 x2 x3 x4 x5 x6 x7) (a b : Int) :
    ∃ y4 y5 y6 y7 e, contralaw09_act.f (k + 1) x0 x1 x2 x3 x4 x5 x6 x7 a b = some (x0, x1, x2, x3, y4, y5, y6, y7, e) ∧ Ok x0 x1 x2 x3 y4 y5 y6 y7 ∧ rank x5 x6 ≤ rank y5 y6 ∧ (3 ≤ x6 → y4 = x4) ∧
      (x6 = 4 ∨ x6 = 5 → y4 = x4 ∧ y5 = x5 ∧ y6 = x6 ∧ y7 = x7) ∧ (e ≠ 0 → y4 = x4 ∧ y5 = x5 ∧ y6 = x6 ∧ y7 = x7) := by
  have hs := h
  obtain ⟨⟨h1, h2⟩, h3, h4⟩ := hs
  have same : ∀ e, contralaw09_act.f (k + 1) x0 x1 x2 x3 x4 x5 x6 x7 a b = some (x0, x1, x2, x3, x4, x5, x6, x7, e) → ∃ y4 y5 y6 y7 e, contralaw09_act.f (k + 1) x0 x1 x2 x3 x4 x5 x6 x7 a b = some (x0, x1, x2, x3, y4, y5, y6, y7, e) ∧ Ok x0 x1 x2 x3 y4 y5 y6 y7 ∧ rank x5 x6 ≤ rank y5 y6 ∧ (3 ≤ x6 → y4 = x4) ∧
      (x6 = 4 ∨ x6 = 5 → y4 = x4 ∧ y5 = x5 ∧ y6 = x6 ∧ y7 = x7) ∧ (e ≠ 0 → y4 = x4 ∧ y5 = x5 ∧ y6 = x6 ∧ y7 = x7) :=
    fun e he => ⟨x4, x5, x6, x7, e, he, h, Int.le_refl _, fun _ => rfl, fun _ => ⟨rfl, rfl, rfl, rfl⟩, fun _ => ⟨rfl, rfl, rfl, rfl⟩⟩
  have go1 : ∀ y4 y5 y6 y7 e, contralaw09_act.f (k + 1) x0 x1 x2 x3 x4 x5 x6 x7 a b = some (x0, x1, x2, x3, y4, y5, y6, y7, e) → (0 ≤ y5 ∧ y5 ≤ 3) → (1 ≤ y6 ∧ y6 ≤ 5) → rank x5 x6 ≤ rank y5 y6 → (3 ≤ x6 → y4 = x4) → x6 ≤ 3 → e = 0 → ∃ y4 y5 y6 y7 e, contralaw09_act.f (k + 1) x0 x1 x2 x3 x4 x5 x6 x7 a b = some (x0, x1, x2, x3, y4, y5, y6, y7, e) ∧ Ok x0 x1 x2 x3 y4 y5 y6 y7 ∧ rank x5 x6 ≤ rank y5 y6 ∧ (3 ≤ x6 → y4 = x4) ∧
      (x6 = 4 ∨ x6 = 5 → y4 = x4 ∧ y5 = x5 ∧ y6 = x6 ∧ y7 = x7) ∧ (e ≠ 0 → y4 = x4 ∧ y5 = x5 ∧ y6 = x6 ∧ y7 = x7) :=
    fun y4 y5 y6 y7 e he a1 a2 a3 a4 a5 a6 => ⟨y4, y5, y6, y7, e, he, ⟨a1, a2⟩, a3, a4, fun h => by omega, fun h => absurd a6 h⟩
  by_cases c1 : a = 1
  · by_cases s : x6 = 1
    · refine go1 x4 x5 2 x7 0 (by simp [contralaw09_act.f, item_Dispute.f, item_step.f, c1, s]) ⟨h1, h2⟩ (by omega) ?_ (by omega) (by omega) rfl
      subst s; simp [rank]; omega
    · exact same 90 (by simp [contralaw09_act.f, item_Dispute.f, item_step.f, c1, s])
  by_cases c2 : a = 2
  · by_cases s : x6 = 1
    · refine go1 x4 x5 3 x7 0 (by simp [contralaw09_act.f, item_Agree.f, item_step.f, c2, s]) ⟨h1, h2⟩ (by omega) ?_ (by omega) (by omega) rfl
      subst s; simp [rank]; omega
    · exact same 90 (by simp [contralaw09_act.f, item_Agree.f, item_step.f, c2, s])
  by_cases c3 : a = 3
  · by_cases s : x6 = 2
    · refine go1 x4 x5 4 x7 0 (by simp [contralaw09_act.f, item_Cancel.f, item_step.f, c3, s]) ⟨h1, h2⟩ (by omega) ?_ (by omega) (by omega) rfl
      subst s; simp [rank]; omega
    · exact same 90 (by simp [contralaw09_act.f, item_Cancel.f, item_step.f, c3, s])
  by_cases c4 : a = 4
  · by_cases s : x6 = 2
    · by_cases b1 : b < 1
      · exact same 1 (by simp [contralaw09_act.f, item_Adjust.f, item_Adjust.j0, c4, s, b1])
      by_cases b2 : b > 1125899906842624
      · exact same 1 (by simp [contralaw09_act.f, item_Adjust.f, item_Adjust.j0, c4, s, b1, b2])
      by_cases r : x5 = 3
      · exact same 91 (by simp [contralaw09_act.f, item_Adjust.f, item_Adjust.j0, c4, s, b1, b2, r])
      · have w1 : wrap64 (x5 + 1) = x5 + 1 := by unfold wrap64; omega
        refine go1 b (x5 + 1) 1 x7 0 (by simp [contralaw09_act.f, item_Adjust.f, item_Adjust.j0, c4, s, b1, b2, r, w1]) (by omega) (by omega) ?_ (by omega) (by omega) rfl
        subst s; simp [rank]; omega
    · exact same 90 (by simp [contralaw09_act.f, item_Adjust.f, c4, s])
  by_cases c5 : a = 5
  · by_cases s : x6 = 3
    · by_cases z : x7 = 0
      · by_cases b1 : b < 1
        · exact same 1 (by simp [contralaw09_act.f, item_Lock.f, item_Lock.j0, c5, s, z, b1])
        by_cases b2 : b > 1048576
        · exact same 1 (by simp [contralaw09_act.f, item_Lock.f, item_Lock.j0, c5, s, z, b1, b2])
        · exact go1 x4 x5 3 b 0 (by simp [contralaw09_act.f, item_Lock.f, item_Lock.j0, c5, s, z, b1, b2]) (by omega) (by omega) (by subst s; exact Int.le_refl _) (by omega) (by omega) rfl
      · exact same 90 (by simp [contralaw09_act.f, item_Lock.f, item_Lock.j0, c5, s, z])
    · exact same 90 (by simp [contralaw09_act.f, item_Lock.f, item_Lock.j0, c5, s])
  by_cases c6 : a = 6
  · by_cases s : x6 = 3
    · by_cases z : x7 = 0
      · exact same 90 (by simp [contralaw09_act.f, item_Free.f, item_locked.f, c6, s, z])
      · exact go1 x4 x5 3 0 0 (by simp [contralaw09_act.f, item_Free.f, item_locked.f, c6, s, z]) (by omega) (by omega) (by subst s; exact Int.le_refl _) (by omega) (by omega) rfl
    · exact same 90 (by simp [contralaw09_act.f, item_Free.f, item_locked.f, c6, s])
  by_cases c7 : a = 7
  · by_cases s : x6 = 3
    · by_cases z : x7 = 0
      · exact same 90 (by simp [contralaw09_act.f, item_Settle.f, item_locked.f, c7, s, z])
      · refine go1 x4 x5 5 x7 0 (by simp [contralaw09_act.f, item_Settle.f, item_locked.f, item_step.f, c7, s, z]) (by omega) (by omega) ?_ (by omega) (by omega) rfl
        subst s; simp [rank]
    · exact same 90 (by simp [contralaw09_act.f, item_Settle.f, item_locked.f, c7, s])
  · exact same 0 (by simp [contralaw09_act.f, c1, c2, c3, c4, c5, c6, c7])

theorem over_some (x0 x1 x2 x3 x4 x5 x6 x7 : Int) : item_Over.f x0 x1 x2 x3 x4 x5 x6 x7 = some (decide (x6 = 4 ∨ x6 = 5)) := by
  unfold item_Over.f
  by_cases h : x6 = 4
  · simp [h]
  · by_cases h2 : x6 = 5
    · simp [h2]
    · simp [h, h2]

theorem j2_no (k : Nat) (l : List S93) (n i y0 y1 y2 y3 y4 y5 y6 y7 : Int) : contralaw09_ItemForward.j2 (k + 1) l n i false y0 y1 y2 y3 y4 y5 y6 y7 = contralaw09_ItemForward.l0 k l n (wrap64 (i + 1)) y0 y1 y2 y3 y4 y5 y6 y7 := by
  simp only [contralaw09_ItemForward.j2]
  rw [if_neg (by decide)]

theorem loop (l : List S93) (hl : l.length ≤ 60) : ∀ (d k : Nat) (i x0 x1 x2 x3 x4 x5 x6 x7 : Int), Ok x0 x1 x2 x3 x4 x5 x6 x7 → 0 ≤ i → i ≤ l.length → (l.length : Int) - i = d → 2 * d + 2 ≤ k →
    contralaw09_ItemForward.l0 k l (l.length : Int) i x0 x1 x2 x3 x4 x5 x6 x7 = some true := by
  intro d
  induction d with
  | zero =>
    intro k i x0 x1 x2 x3 x4 x5 x6 x7 hx h0 h1 hd hk
    obtain ⟨k, rfl⟩ : ∃ m, k = m + 1 := ⟨k - 1, by omega⟩
    simp only [contralaw09_ItemForward.l0]
    rw [if_neg (by omega)]
  | succ d ih =>
    intro k i x0 x1 x2 x3 x4 x5 x6 x7 hx h0 h1 hd hk
    obtain ⟨k, rfl⟩ : ∃ m, k = m + 2 := ⟨k - 2, by omega⟩
    obtain ⟨y4, y5, y6, y7, e, ha, hy, hr, h3, ho, he⟩ := act_ok k hx (rd_T93 l i).f0 (rd_T93 l i).f1
    simp only [contralaw09_ItemForward.l0]
    rw [if_pos (by omega), if_pos h0, if_pos (by omega), ha]
    simp only [Option.bind_some]
    rw [rank_some k hy, rank_some k hx]
    simp only [Option.bind_some, over_some]
    rw [if_neg (by omega)]
    have w1 : wrap64 (i + 1) = i + 1 := by unfold wrap64; omega
    have hn := ih k (i + 1) x0 x1 x2 x3 y4 y5 y6 y7 hy (by omega) (by omega) (by omega) (by omega)
    have hj : contralaw09_ItemForward.j2 (k + 1) l (l.length : Int) i false x0 x1 x2 x3 y4 y5 y6 y7 = some true := by rw [j2_no, w1, hn]
    by_cases g : x6 = 4 ∨ x6 = 5
    · obtain ⟨rfl, rfl, rfl, rfl⟩ := ho g
      simp [g, hj]
    · by_cases z : e = 0
      · have h3' : x6 ≥ 3 → y4 = x4 := h3
        by_cases s : x6 ≥ 3
        · have h4 := h3' s
          subst h4
          simp [g, z, hj]
        · simp [g, z, s, hj]
      · obtain ⟨rfl, rfl, rfl, rfl⟩ := he z
        simp [g, hj, z]

theorem ItemForward : RdItemForward.Pure := by
  intro x l _ _
  refine ⟨130, ?_⟩
  unfold contralaw09_ItemForward.f
  have hl : contralaw09_lives.f 130 = some true := by kernel_rfl
  rw [hl]
  simp only [Option.bind_some, if_true]
  obtain ⟨r, hr, hok⟩ := check_ok 128 (x0 := x.f0.f0) (x1 := x.f0.f1) (x2 := x.f1) (x3 := x.f2) (x4 := x.f3) (x5 := x.f4) (x6 := x.f5) (x7 := x.f6)
  rw [hr]
  simp only [Option.bind_some, contralaw09_ItemForward.j0]
  by_cases h : r = 0
  · rw [if_pos h]
    by_cases hn : (l.length : Int) > 60
    · rw [if_pos (decide_eq_true hn)]
    · rw [if_neg (by simpa using hn)]
      exact loop l (by omega) l.length 129 0 _ _ _ _ _ _ _ _ (hok h) (by omega) (by omega) (by omega) (by omega)
  · rw [if_neg h]
    simp

end Go.Proofs.Ytpkfagbllafehaa.Pure
