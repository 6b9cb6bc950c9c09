/- The net: a packet comes; a packet twice. -/
import Derived.Test.YtpkfagbllafehaaAmNet2
namespace Go.Proofs.Am
open Go Go.Proofs
set_option maxRecDepth 100000
theorem same17 (p : PPacket) (hm : p.msg.fits) : ConP Try.prog 17 [p.av, p.av] (.p (bv true)) := by
  refine ⟨?_, SubT.selfp⟩
  refine Con.mk tabOk tabOne 10 Try.func17 rfl (by kernel_rfl) rfl ?_
  refine wpA_sound mixed tabOk tabOne _ _ _ ?_
  conv => whnf
  iterate 4
    refine condT (by simp) ?_
    conv => whnf
  refine callP (same43 p.msg hm) (.cons (SubA.selfa (r := p.msg.cells)) (.cons (SubA.selfa (r := p.msg.cells)) .nil)) ?_
  conv => whnf
  exact ⟨_, rfl, FinR.id SubT.selfp⟩
theorem take16i (fl : List PPacket) (i : Nat) (p : PPacket) (hp : fl[i]? = some p) (hb : p.msg.fits) (hn : fl.length ≤ 8192) : Con Try.prog 16 [.ptr 0 0 0, .p (iv i)] (netH 1 fl) (.tup [p.av, .p (iv 0)]) (netH 2 (fl.eraseIdx i)) := by
  have hlt : i < fl.length := (List.getElem?_eq_some_iff.1 hp).1
  refine Con.mk tabOk tabOne 10 Try.func16 rfl (by kernel_rfl) rfl ?_
  refine wpA_sound mixed tabOk tabOne _ _ _ ?_
  conv => whnf
  refine callU (look19i fl i p hp hb) [] [(74, 2)] (.tup [p.av, .p (iv 0)]) [(0, .box 26 [.sl 74 0 fl.length]), (74, .arr 37 15 (up (packRows fl)))] (by kernel_rfl) (.cons (SubA.ptr rfl) (.cons (SubA.p rfl) .nil)) ⟨⟨_, rfl, netB rfl rfl rfl⟩, ⟨_, rfl, SubB.up_eq rfl⟩, trivial⟩ ?_ ⟨⟨_, rfl, netB rfl rfl rfl⟩, ⟨_, rfl, SubB.up_eq rfl⟩, trivial⟩ ?_
  · exact SubT.tup (.cons (SubA.selfa (r := p.cells)) (.cons (SubA.p rfl) .nil))
  conv => whnf
  refine callU (delete61 fl i hlt hn) [(1, 74)] [(346, 2), (1, 99)] (.sl 346 0 (fl.eraseIdx i).length) [(346, .arr 37 15 (up (packRows (fl.eraseIdx i))))] (by kernel_rfl) (.cons (SubA.sl' rfl rfl) (.cons (SubA.p rfl) (.cons (SubA.p (by rw [wrap_succ (by omega)])) .nil))) ⟨⟨_, rfl, SubB.up_eq rfl⟩, trivial⟩ (SubT.sl rfl rfl rfl rfl) ⟨⟨_, rfl, SubB.up_eq rfl⟩, trivial⟩ ?_
  conv => whnf
  exact ⟨_, rfl, FinR.mk [(2, 346)] 400 rfl (SubT.tup (.cons (SubA.selfa (r := p.cells)) (.cons (SubA.p rfl) .nil))) ⟨⟨_, rfl, netB rfl rfl rfl⟩, ⟨_, rfl, SubB.up_eq rfl⟩, trivial⟩⟩

theorem take16o (fl : List PPacket) (i : Int) (hi : ¬ (0 ≤ i ∧ i < fl.length)) : Con Try.prog 16 [.ptr 0 0 0, .p (iv i)] (netH 1 fl) (.tup [zpack.av, .p (iv 4)]) (netH 2 fl) := by
  refine Con.mk tabOk tabOne 10 Try.func16 rfl (by kernel_rfl) rfl ?_
  refine wpA_sound mixed tabOk tabOne _ _ _ ?_
  conv => whnf
  refine callU (look19o fl i hi) [] [(74, 2)] (.tup [zpack.av, .p (iv 4)]) [(0, .box 26 [.sl 74 0 fl.length]), (74, .arr 37 15 (up (packRows fl)))] (by kernel_rfl) (.cons (SubA.ptr rfl) (.cons (SubA.p rfl) .nil)) ⟨⟨_, rfl, netB rfl rfl rfl⟩, ⟨_, rfl, SubB.up_eq rfl⟩, trivial⟩ ?_ ⟨⟨_, rfl, netB rfl rfl rfl⟩, ⟨_, rfl, SubB.up_eq rfl⟩, trivial⟩ ?_
  · exact SubT.tup (.cons (SubA.selfa (r := zpack.cells)) (.cons (SubA.p rfl) .nil))
  conv => whnf
  exact ⟨_, rfl, FinR.mk [(2, 74)] 400 rfl (SubT.tup (.cons (SubA.selfa (r := zpack.cells)) (.cons (SubA.p rfl) .nil))) ⟨⟨_, rfl, netB rfl rfl rfl⟩, ⟨_, rfl, SubB.up_eq rfl⟩, trivial⟩⟩

theorem twice18o (fl : List PPacket) (i : Int) (hi : ¬ (0 ≤ i ∧ i < fl.length)) : Con Try.prog 18 [.ptr 0 0 0, .p (iv i)] (netH 1 fl) (.p (iv 4)) (netH 2 fl) := by
  refine Con.mk tabOk tabOne 10 Try.func18 rfl (by kernel_rfl) rfl ?_
  refine wpA_sound mixed tabOk tabOne _ _ _ ?_
  conv => whnf
  refine callU (look19o fl i hi) [] [(58, 2)] (.tup [zpack.av, .p (iv 4)]) [(0, .box 26 [.sl 58 0 fl.length]), (58, .arr 37 15 (up (packRows fl)))] (by kernel_rfl) (.cons (SubA.ptr rfl) (.cons (SubA.p rfl) .nil)) ⟨⟨_, rfl, netB rfl rfl rfl⟩, ⟨_, rfl, SubB.up_eq rfl⟩, trivial⟩ ?_ ⟨⟨_, rfl, netB rfl rfl rfl⟩, ⟨_, rfl, SubB.up_eq rfl⟩, trivial⟩ ?_
  · exact SubT.tup (.cons (SubA.selfa (r := zpack.cells)) (.cons (SubA.p rfl) .nil))
  conv => whnf
  exact ⟨_, rfl, FinR.mk [(2, 58)] 400 rfl (SubT.p rfl) ⟨⟨_, rfl, netB rfl rfl rfl⟩, ⟨_, rfl, SubB.up_eq rfl⟩, trivial⟩⟩

theorem twice18i (fl : List PPacket) (i : Nat) (p : PPacket) (hp : fl[i]? = some p) (hb : p.msg.fits) (hn : fl.length + 1 ≤ 8192) : Con Try.prog 18 [.ptr 0 0 0, .p (iv i)] (netH 1 fl) (.p (iv 0)) (netH 2 (fl ++ [p])) := by
  refine Con.mk tabOk tabOne 10 Try.func18 rfl (by kernel_rfl) rfl ?_
  refine wpA_sound mixed tabOk tabOne _ _ _ ?_
  conv => whnf
  refine callU (look19i fl i p hp hb) [] [(58, 2)] (.tup [p.av, .p (iv 0)]) [(0, .box 26 [.sl 58 0 fl.length]), (58, .arr 37 15 (up (packRows fl)))] (by kernel_rfl) (.cons (SubA.ptr rfl) (.cons (SubA.p rfl) .nil)) ⟨⟨_, rfl, netB rfl rfl rfl⟩, ⟨_, rfl, SubB.up_eq rfl⟩, trivial⟩ ?_ ⟨⟨_, rfl, netB rfl rfl rfl⟩, ⟨_, rfl, SubB.up_eq rfl⟩, trivial⟩ ?_
  · exact SubT.tup (.cons (SubA.selfa (r := p.cells)) (.cons (SubA.p rfl) .nil))
  conv => whnf
  refine callF (xs1 := [.ptr 0 0 0, .p (.seq 15 (packRows [p]))]) (send15 fl [p] hn (fun q hq => by simp at hq; subst hq; exact hb)) 250 (t := 37) (sz := 15) (packRows [p]) [(1, 58)] [(266, 2), (1, 99)] (.p (iv ([p] : List PPacket).length)) [(0, .box 26 [.sl 266 0 (fl ++ [p]).length]), (266, .arr 37 15 (up (packRows (fl ++ [p]))))] rfl (arr_up (rows' := packRows [p]) rfl) (.cons .same (.cons (Frz1.all rfl) .nil)) (by kernel_rfl) (.cons (SubA.ptr' rfl rfl) (.cons (SubA.p rfl) .nil)) ⟨⟨_, rfl, netB rfl rfl rfl⟩, ⟨_, rfl, SubB.up_eq rfl⟩, trivial⟩ (SubT.p rfl) ⟨⟨_, rfl, netB rfl rfl rfl⟩, ⟨_, rfl, SubB.up_eq rfl⟩, trivial⟩ ?_
  conv => whnf
  exact ⟨_, rfl, FinR.mk [(2, 266)] 400 rfl (SubT.p rfl) ⟨⟨_, rfl, netB rfl rfl rfl⟩, ⟨_, rfl, SubB.up_eq rfl⟩, trivial⟩⟩
end Go.Proofs.Am
