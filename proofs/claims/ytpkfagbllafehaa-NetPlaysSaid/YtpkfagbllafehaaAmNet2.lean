/- The net: a packet taken out. -/
import Derived.Test.YtpkfagbllafehaaAmNet
namespace Go.Proofs.Am
open Go Go.Proofs
set_option maxRecDepth 100000
theorem SubA.sl' {π : List (Nat × Nat)} {S : Nat → Bool} {id id' off len : Nat} (h : S id = true) (e : renI π id = id') : SubA π S (.sl id' off len) (.sl id off len) := e ▸ SubA.sl h
theorem SubA.ptr' {π : List (Nat × Nat)} {S : Nat → Bool} {id id' row off : Nat} (h : S id = true) (e : renI π id = id') : SubA π S (.ptr id' row off) (.ptr id row off) := e ▸ SubA.ptr h
theorem cut_pre {α : Type} {U r0 R : List α} {k : Nat} (hk : k = U.length) (D : List α) : List.take k (U ++ r0) ++ R ++ D = U ++ (R ++ D) := by subst hk; simp
theorem delete61 (fl : List PPacket) (i : Nat) (hi : i < fl.length) (hn : fl.length ≤ 8192) : Con Try.prog 61 [.sl 1 0 fl.length, .p (iv i), .p (iv (i + 1 : Nat))] [(1, .arr 37 15 (up (packRows fl)))] (.sl 2 0 (fl.eraseIdx i).length) [(2, .arr 37 15 (up (packRows (fl.eraseIdx i))))] := by
  refine Con.mk tabOk tabOne 10 Try.func61 rfl (by kernel_rfl) rfl ?_
  refine wpA_sound mixed tabOk tabOne _ _ _ ?_
  conv => whnf
  refine ⟨⟨by omega, trivial, by omega, by simp; omega, by omega, by omega⟩, ?_⟩
  conv => whnf
  refine condF (by simp; omega) ?_
  conv => whnf
  refine ⟨⟨trivial, by omega, by omega, .inl (by simp; omega)⟩, ?_⟩
  conv => whnf
  refine ⟨⟨by omega, trivial, by simp; omega, .inl (by omega)⟩, ?_⟩
  conv => whnf
  refine ⟨by simp [up]; omega, ?_⟩
  conv => whnf
  refine .inr ⟨⟨by simp [up]; omega, by simp [up]; omega⟩, ?_⟩
  conv => whnf
  refine ⟨by kernel_rfl, ?_⟩
  conv => whnf
  have hl1 : (List.take (fl.length - (↑(i + 1) : Int).toNat) (List.drop (0 + (↑(i + 1) : Int).toNat) (up (packRows fl)))).length = fl.length - (i + 1) := by simp [up]
  refine ⟨⟨by omega, by omega, by rw [hl1]; simp; omega, .inr ?_⟩, ?_⟩
  · rw [hl1]; simp [up]; omega
  conv => whnf
  have hT : (List.take ((i : Int).toNat - 0) (up (packRows fl)) ++ List.take (fl.length - (↑(i + 1) : Int).toNat) (List.drop (0 + (↑(i + 1) : Int).toNat) (up (packRows fl)))) = up (packRows (fl.eraseIdx i)) := by
    simp only [Int.toNat_natCast, Nat.sub_zero, Nat.zero_add, List.eraseIdx_eq_take_drop_succ]
    rw [List.take_of_length_le (i := fl.length - (i + 1)) (by simp [up])]
    simp [up, packRows, List.map_take, List.map_drop]
  have hL : (fl.eraseIdx i).length = fl.length - 1 := by rw [List.length_eraseIdx]; simp [hi]
  refine ⟨⟨by simp [up]; omega, by simp [up]; omega⟩, ?_⟩
  conv => whnf
  refine ⟨_, rfl, FinR.mk [(2, 1)] 10 rfl (SubT.sl rfl rfl rfl (by rw [hl1, hL]; simp; omega)) ⟨⟨_, rfl, ?_⟩, trivial⟩⟩
  rw [hT]
  exact arr_pre (cut_pre (by rw [hl1]; simp [up, hL]; omega) _)
end Go.Proofs.Am
