import Derived.Test.YtpkfagbllafehaaAmClone
namespace Go.Proofs.Am
open Go Go.Proofs
set_option maxRecDepth 100000
theorem same43 (m : PMsg) (hm : m.fits) : ConP Try.prog 43 [m.av, m.av] (.p (bv true)) := by
  obtain ⟨h1, h2⟩ := hm
  refine ⟨?_, SubT.selfp⟩
  refine Con.mk tabOk tabOne 10 Try.func43 rfl (by kernel_rfl) rfl ?_
  refine wpA_sound mixed tabOk tabOne _ _ _ ?_
  iterate 10
    conv => whnf
    refine condF (by simp) ?_
  conv => whnf
  refine Tri.loop (fun i : Nat => i ≤ m.lines.length) (fun i => ⟨[(2, .ptr 10 0 0), (3, .ptr 26 0 0), (5, .p (iv i))], [(10, some (.box 35 (m.cells.map .p))), (26, some (.box 35 (m.cells.map .p)))], 100⟩) (fun i => m.lines.length - i) 0 (Nat.zero_le _)
    (SLe.mk [] rfl ⟨SubT.ptr rfl rfl, SubT.ptr rfl rfl, SubT.p rfl, trivial⟩ ⟨⟨_, rfl, SubB.boxp (r := m.cells)⟩, ⟨_, rfl, SubB.boxp (r := m.cells)⟩, trivial⟩) ?_
  intro i hi
  refine wpA_sound mixed tabOk tabOne _ _ _ ?_
  conv => whnf
  refine condB (fun h => ?_) (fun h => ?_)
  · have hlt : i < m.lines.length := by simpa using h
    obtain ⟨x, hx⟩ : ∃ x, m.lines[i]? = some x := ⟨_, List.getElem?_eq_getElem hlt⟩
    have hrow : (lineRows m.lines)[(i : Int).toNat]? = some x.cells := by simp [lineRows, hx]
    conv => whnf
    refine ⟨⟨by omega, by simpa using hlt⟩, ?_⟩
    conv => whnf
    refine ⟨_, hrow, ?_⟩
    conv => whnf
    refine ⟨⟨by omega, by simpa using hlt⟩, ?_⟩
    conv => whnf
    refine ⟨_, hrow, ?_⟩
    conv => whnf
    refine ⟨by kernel_rfl, ?_⟩
    conv => whnf
    refine condF (by simp) ?_
    conv => whnf
    exact ⟨i + 1, by omega, by omega, SLe.mk [] rfl ⟨SubT.ptr rfl rfl, SubT.ptr rfl rfl, SubT.p (by rw [wrap_succ (by omega)]), trivial⟩ ⟨⟨_, rfl, SubB.boxp (r := m.cells)⟩, ⟨_, rfl, SubB.boxp (r := m.cells)⟩, trivial⟩⟩
  · conv => whnf
    refine Tri.loop (fun i : Nat => i ≤ m.nets.length) (fun i => ⟨[(2, .ptr 10 0 0), (3, .ptr 26 0 0), (6, .p (iv i))], [(10, some (.box 35 (m.cells.map .p))), (26, some (.box 35 (m.cells.map .p)))], 100⟩) (fun i => m.nets.length - i) 0 (Nat.zero_le _)
      (SLe.mk [] rfl ⟨SubT.ptr rfl rfl, SubT.ptr rfl rfl, SubT.p rfl, trivial⟩ ⟨⟨_, rfl, SubB.boxp (r := m.cells)⟩, ⟨_, rfl, SubB.boxp (r := m.cells)⟩, trivial⟩) ?_
    clear h hi i
    intro i hi
    refine wpA_sound mixed tabOk tabOne _ _ _ ?_
    conv => whnf
    refine condB (fun h => ?_) (fun h => ?_)
    · have hlt : i < m.nets.length := by simpa using h
      obtain ⟨x, hx⟩ : ∃ x, m.nets[i]? = some x := ⟨_, List.getElem?_eq_getElem hlt⟩
      have hrow : (intRows m.nets)[(i : Int).toNat]? = some [iv x] := by simp [intRows, hx]
      conv => whnf
      refine ⟨⟨by omega, by simpa using hlt⟩, ?_⟩
      conv => whnf
      refine ⟨_, hrow, ?_⟩
      conv => whnf
      refine ⟨⟨by omega, by simpa using hlt⟩, ?_⟩
      conv => whnf
      refine ⟨_, hrow, ?_⟩
      conv => whnf
      refine ⟨by kernel_rfl, ?_⟩
      conv => whnf
      refine condF (by simp) ?_
      conv => whnf
      exact ⟨i + 1, by omega, by omega, SLe.mk [] rfl ⟨SubT.ptr rfl rfl, SubT.ptr rfl rfl, SubT.p (by rw [wrap_succ (by omega)]), trivial⟩ ⟨⟨_, rfl, SubB.boxp (r := m.cells)⟩, ⟨_, rfl, SubB.boxp (r := m.cells)⟩, trivial⟩⟩
    · conv => whnf
      exact ⟨_, rfl, FinR.id SubT.selfp⟩
end Go.Proofs.Am
