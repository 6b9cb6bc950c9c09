/- The library's Clone, of lists of plain data. -/
import Derived.Test.YtpkfagbllafehaaAmTab
import Derived.Test.YtpkfagbllafehaaAmData
namespace Go.Proofs.Am
open Go Go.Proofs
set_option maxRecDepth 100000

theorem clone64 (rows : List (List PV)) (hb : rows.length * 64 ≤ 140737488355328) : ConP Try.prog 64 [.p (.seq 8 rows)] (.p (.seq 8 rows)) := by
  refine ⟨?_, SubT.selfp⟩
  by_cases h0 : rows = []
  · subst h0
    refine Con.split (pre := []) (post := []) ?_ ?_
    · refine Con.mk tabOk tabOne 10 Try.func64 rfl (by kernel_rfl) rfl ?_
      refine wpA_sound mixed tabOk tabOne _ _ _ ?_
      conv => whnf
      refine ⟨trivial, ?_⟩
      conv => whnf
      exact ⟨_, rfl, FinR.id (SubT.of SubA.nil_seq rfl rfl)⟩
    · refine Con.mk tabOk tabOne 10 Try.func64 rfl (by kernel_rfl) rfl ?_
      refine wpA_sound mixed tabOk tabOne _ _ _ ?_
      conv => whnf
      refine ⟨trivial, ?_⟩
      conv => whnf
      refine .inl ⟨⟨rfl, by decide⟩, ?_⟩
      conv => whnf
      exact ⟨_, rfl, FinR.frz1 (rows := []) rfl rfl⟩
  · refine Con.mk tabOk tabOne 10 Try.func64 rfl (by kernel_rfl) rfl ?_
    refine wpA_sound mixed tabOk tabOne _ _ _ ?_
    conv => whnf
    refine ⟨h0, ?_⟩
    conv => whnf
    refine .inl ⟨⟨rfl, by rw [up_length, Nat.zero_add]; exact hb⟩, ?_⟩
    conv => whnf
    exact ⟨_, rfl, FinR.frz1 (rows := rows) rfl (by rw [up_length, Nat.zero_add])⟩

theorem clone73 (rows : List (List PV)) (hb : rows.length * 24 ≤ 140737488355328) : ConP Try.prog 73 [.p (.seq 3 rows)] (.p (.seq 3 rows)) := by
  refine ⟨?_, SubT.selfp⟩
  by_cases h0 : rows = []
  · subst h0
    refine Con.split (pre := []) (post := []) ?_ ?_
    · refine Con.mk tabOk tabOne 10 Try.func73 rfl (by kernel_rfl) rfl ?_
      refine wpA_sound mixed tabOk tabOne _ _ _ ?_
      conv => whnf
      refine ⟨trivial, ?_⟩
      conv => whnf
      exact ⟨_, rfl, FinR.id (SubT.of SubA.nil_seq rfl rfl)⟩
    · refine Con.mk tabOk tabOne 10 Try.func73 rfl (by kernel_rfl) rfl ?_
      refine wpA_sound mixed tabOk tabOne _ _ _ ?_
      conv => whnf
      refine ⟨trivial, ?_⟩
      conv => whnf
      refine .inl ⟨⟨rfl, by decide⟩, ?_⟩
      conv => whnf
      exact ⟨_, rfl, FinR.frz1 (rows := []) rfl rfl⟩
  · refine Con.mk tabOk tabOne 10 Try.func73 rfl (by kernel_rfl) rfl ?_
    refine wpA_sound mixed tabOk tabOne _ _ _ ?_
    conv => whnf
    refine ⟨h0, ?_⟩
    conv => whnf
    refine .inl ⟨⟨rfl, by rw [up_length, Nat.zero_add]; exact hb⟩, ?_⟩
    conv => whnf
    exact ⟨_, rfl, FinR.frz1 (rows := rows) rfl (by rw [up_length, Nat.zero_add])⟩

theorem clone85 (rows : List (List PV)) (hb : rows.length * 32 ≤ 140737488355328) : ConP Try.prog 85 [.p (.seq 4 rows)] (.p (.seq 4 rows)) := by
  refine ⟨?_, SubT.selfp⟩
  by_cases h0 : rows = []
  · subst h0
    refine Con.split (pre := []) (post := []) ?_ ?_
    · refine Con.mk tabOk tabOne 10 Try.func85 rfl (by kernel_rfl) rfl ?_
      refine wpA_sound mixed tabOk tabOne _ _ _ ?_
      conv => whnf
      refine ⟨trivial, ?_⟩
      conv => whnf
      exact ⟨_, rfl, FinR.id (SubT.of SubA.nil_seq rfl rfl)⟩
    · refine Con.mk tabOk tabOne 10 Try.func85 rfl (by kernel_rfl) rfl ?_
      refine wpA_sound mixed tabOk tabOne _ _ _ ?_
      conv => whnf
      refine ⟨trivial, ?_⟩
      conv => whnf
      refine .inl ⟨⟨rfl, by decide⟩, ?_⟩
      conv => whnf
      exact ⟨_, rfl, FinR.frz1 (rows := []) rfl rfl⟩
  · refine Con.mk tabOk tabOne 10 Try.func85 rfl (by kernel_rfl) rfl ?_
    refine wpA_sound mixed tabOk tabOne _ _ _ ?_
    conv => whnf
    refine ⟨h0, ?_⟩
    conv => whnf
    refine .inl ⟨⟨rfl, by rw [up_length, Nat.zero_add]; exact hb⟩, ?_⟩
    conv => whnf
    exact ⟨_, rfl, FinR.frz1 (rows := rows) rfl (by rw [up_length, Nat.zero_add])⟩

theorem clone86 (rows : List (List PV)) (hb : rows.length * 8 ≤ 140737488355328) : ConP Try.prog 86 [.p (.seq 1 rows)] (.p (.seq 1 rows)) := by
  refine ⟨?_, SubT.selfp⟩
  by_cases h0 : rows = []
  · subst h0
    refine Con.split (pre := []) (post := []) ?_ ?_
    · refine Con.mk tabOk tabOne 10 Try.func86 rfl (by kernel_rfl) rfl ?_
      refine wpA_sound mixed tabOk tabOne _ _ _ ?_
      conv => whnf
      refine ⟨trivial, ?_⟩
      conv => whnf
      exact ⟨_, rfl, FinR.id (SubT.of SubA.nil_seq rfl rfl)⟩
    · refine Con.mk tabOk tabOne 10 Try.func86 rfl (by kernel_rfl) rfl ?_
      refine wpA_sound mixed tabOk tabOne _ _ _ ?_
      conv => whnf
      refine ⟨trivial, ?_⟩
      conv => whnf
      refine .inl ⟨⟨rfl, by decide⟩, ?_⟩
      conv => whnf
      exact ⟨_, rfl, FinR.frz1 (rows := []) rfl rfl⟩
  · refine Con.mk tabOk tabOne 10 Try.func86 rfl (by kernel_rfl) rfl ?_
    refine wpA_sound mixed tabOk tabOne _ _ _ ?_
    conv => whnf
    refine ⟨h0, ?_⟩
    conv => whnf
    refine .inl ⟨⟨rfl, by rw [up_length, Nat.zero_add]; exact hb⟩, ?_⟩
    conv => whnf
    exact ⟨_, rfl, FinR.frz1 (rows := rows) rfl (by rw [up_length, Nat.zero_add])⟩

theorem clone94 (rows : List (List PV)) (hb : rows.length * 120 ≤ 140737488355328) : ConP Try.prog 94 [.p (.seq 11 rows)] (.p (.seq 11 rows)) := by
  refine ⟨?_, SubT.selfp⟩
  by_cases h0 : rows = []
  · subst h0
    refine Con.split (pre := []) (post := []) ?_ ?_
    · refine Con.mk tabOk tabOne 10 Try.func94 rfl (by kernel_rfl) rfl ?_
      refine wpA_sound mixed tabOk tabOne _ _ _ ?_
      conv => whnf
      refine ⟨trivial, ?_⟩
      conv => whnf
      exact ⟨_, rfl, FinR.id (SubT.of SubA.nil_seq rfl rfl)⟩
    · refine Con.mk tabOk tabOne 10 Try.func94 rfl (by kernel_rfl) rfl ?_
      refine wpA_sound mixed tabOk tabOne _ _ _ ?_
      conv => whnf
      refine ⟨trivial, ?_⟩
      conv => whnf
      refine .inl ⟨⟨rfl, by decide⟩, ?_⟩
      conv => whnf
      exact ⟨_, rfl, FinR.frz1 (rows := []) rfl rfl⟩
  · refine Con.mk tabOk tabOne 10 Try.func94 rfl (by kernel_rfl) rfl ?_
    refine wpA_sound mixed tabOk tabOne _ _ _ ?_
    conv => whnf
    refine ⟨h0, ?_⟩
    conv => whnf
    refine .inl ⟨⟨rfl, by rw [up_length, Nat.zero_add]; exact hb⟩, ?_⟩
    conv => whnf
    exact ⟨_, rfl, FinR.frz1 (rows := rows) rfl (by rw [up_length, Nat.zero_add])⟩
end Go.Proofs.Am
