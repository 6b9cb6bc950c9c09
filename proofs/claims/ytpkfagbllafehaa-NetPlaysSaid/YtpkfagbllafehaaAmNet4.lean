/- The net: the head of the law. -/
import Derived.Test.YtpkfagbllafehaaAmNet3
import Derived.Test.YtpkfagbllafehaaAmR2
namespace Go.Proofs.Am
open Go Go.Proofs
set_option maxRecDepth 100000
def cp1 : PPacket := ⟨1, 2, 3, 0, zmsg⟩
def cp2 : PPacket := ⟨0, 4, 0, 0, zmsg⟩
theorem cpFits : ∀ p, p ∈ [cp1, cp2] → p.msg.fits := fun p hp => by simp at hp; rcases hp with rfl | rfl <;> exact ⟨by decide, by decide⟩
theorem cpUp {π : List (Nat × Nat)} {S : Nat → Bool} {rows : List (List AV)} (h : rows = [(.p (iv 1)) :: (.p (iv 2)) :: (.p (iv 3)) :: ti37.zero.drop 3, (.p (iv 0)) :: (.p (iv 4)) :: ti37.zero.drop 2]) : SubB π S (.arr 37 15 rows) (.arr 37 15 (up (packRows [cp1, cp2]))) := by
  subst h
  refine SubB.arr fun i x hi => ?_
  match i, hi with
  | 0, hi => cases hi; exact ⟨_, rfl, (.cons (.p rfl) (.cons (.p rfl) (.cons (.p rfl) (.cons (.p rfl) (.cons (.p rfl) (.cons (.p rfl) (.cons (.p rfl) (.cons (.p rfl) (.cons (.p rfl) (.cons (.p rfl) (.cons (.p rfl) (.cons (.p rfl) (.cons (.p rfl) (.cons Sub1.nil_seq (.cons Sub1.nil_seq .nil)))))))))))))))⟩
  | 1, hi => cases hi; exact ⟨_, rfl, (.cons (.p rfl) (.cons (.p rfl) (.cons (.p rfl) (.cons (.p rfl) (.cons (.p rfl) (.cons (.p rfl) (.cons (.p rfl) (.cons (.p rfl) (.cons (.p rfl) (.cons (.p rfl) (.cons (.p rfl) (.cons (.p rfl) (.cons (.p rfl) (.cons Sub1.nil_seq (.cons Sub1.nil_seq .nil)))))))))))))))⟩
  | n + 2, hi => cases hi
/-- A call of a function of a net, which lies in b with its list in k. -/
theorem netU {f : FuncId} {fl fl' : List PPacket} {xs rest : List AV} {x : AV} {h : Nat → Option Blk} {m : Nat} {K : KA} (c : Con Try.prog f (.ptr 0 0 0 :: rest) (netH 1 fl) x (netH 2 fl')) (b k : Nat)
    (hb : h b = some (.box 26 [.sl k 0 fl.length])) (hk : h k = some (.arr 37 15 (up (packRows fl)))) (hq : (callB [(0, b), (1, k)] [(b, 0), (m, 2), (0, 98), (1, 99)] [0, 1] [b, m] m && undoB [(0, b), (1, k)] [(b, 0), (m, 2), (0, 98), (1, 99)] [0, 1] && (!Nat.beq b m)) = true)
    (hxs : All2 (SubA [(0, b), (1, k)] (hasKey (netH 1 fl))) xs (.ptr 0 0 0 :: rest)) (hx : ∀ π S, SubT π S x x)
    (hK : K x [b, k] (leaves [(b, .box 26 [.sl m 0 fl'.length]), (m, .arr 37 15 (up (packRows fl')))] [b, k])) :
    ∃ x touch put, CallSem Try.prog f xs (cut (domF touch put) h) (ids m) (cut (domF touch put) (putF put h)) x ∧ K x touch put := by
  rw [Bool.and_eq_true] at hq
  have hbm : Nat.beq b m = false := by have := hq.2; cases hn : Nat.beq b m; rfl; rw [hn] at this; cases this
  have hm2 : renI [(b, 0), (m, 2), (0, 98), (1, 99)] m = 2 := by simp [renI, look, hbm]
  have hb2 : renI [(b, 0), (m, 2), (0, 98), (1, 99)] b = 0 := by simp [renI, look]
  refine callU c [(0, b), (1, k)] [(b, 0), (m, 2), (0, 98), (1, 99)] x [(b, .box 26 [.sl m 0 fl'.length]), (m, .arr 37 15 (up (packRows fl')))] hq.1 hxs ⟨⟨_, hb, netB rfl rfl rfl⟩, ⟨_, hk, SubB.up_eq rfl⟩, trivial⟩ (hx _ _)
    ⟨⟨_, by rw [hb2]; rfl, netB (by simp [hasKey, look, hbm]) hm2 rfl⟩, ⟨_, by rw [hm2]; rfl, SubB.up_eq rfl⟩, trivial⟩ hK
theorem subt1 {p : PV} : ∀ π S, SubT π S (.p p) (.p p) := fun _ _ => SubT.selfp
theorem subt2 {r : List PV} {p : PV} : ∀ π S, SubT π S (.tup [.agg (r.map .p), .p p]) (.tup [.agg (r.map .p), .p p]) := fun _ _ => SubT.tup (.cons SubA.selfa (.cons (SubA.p rfl) .nil))
theorem carries14 : ConP Try.prog 14 [] (.p (bv true)) := by
  refine ⟨?_, SubT.selfp⟩
  refine Con.mk tabOk tabOne 10 Try.func14 rfl (by kernel_rfl) rfl ?_
  refine wpA_sound mixed tabOk tabOne _ _ _ ?_
  conv => whnf
  refine callNF (xs1 := [.ptr 26 0 0, .p (.seq 15 (packRows [cp1, cp2]))]) (send15 [] [cp1, cp2] (by decide) cpFits) 74 (t := 37) (sz := 15) (packRows [cp1, cp2]) 95 37 15 [(26, some (.box 26 [.sl 95 0 0])), (95, some (.arr 37 15 []))] [(0, 26), (1, 95)] [(26, 0), (90, 2), (0, 99), (1, 98)] (.p (iv 2)) [(26, .box 26 [.sl 90 0 2]), (90, .arr 37 15 (up (packRows [cp1, cp2])))]
    rfl (cpUp rfl) (.cons .same (.cons (Frz1.all rfl) .nil)) ⟨.inr ⟨rfl, _, rfl, rfl, .cons (.inr ⟨rfl, rfl⟩) .nil⟩, .inl ⟨rfl, rfl⟩, trivial⟩ (by kernel_rfl) (.cons (SubA.ptr' rfl rfl) (.cons (SubA.p rfl) .nil)) ⟨⟨_, rfl, netB rfl rfl rfl⟩, ⟨_, rfl, arr_up rfl⟩, trivial⟩ (SubT.p rfl) ⟨⟨_, rfl, netB rfl rfl rfl⟩, ⟨_, rfl, SubB.up_eq rfl⟩, trivial⟩ ?_
  conv => whnf
  refine netU (take16i [cp1, cp2] 0 cp1 rfl (cpFits _ (by simp)) (by decide)) 26 _ rfl rfl (by kernel_rfl) (.cons (SubA.ptr' rfl rfl) (.cons (SubA.p rfl) .nil)) (subt2 (r := cp1.cells)) ?_
  conv => whnf
  refine netU (take16o [cp2] 5 (by decide)) 26 _ rfl rfl (by kernel_rfl) (.cons (SubA.ptr' rfl rfl) (.cons (SubA.p rfl) .nil)) (subt2 (r := zpack.cells)) ?_
  conv => whnf
  refine netU (len20 [cp2]) 26 _ rfl rfl (by kernel_rfl) (.cons (SubA.ptr' rfl rfl) .nil) subt1 ?_
  conv => whnf
  refine netU (twice18i [cp2] 0 cp2 rfl (cpFits _ (by simp)) (by decide)) 26 _ rfl rfl (by kernel_rfl) (.cons (SubA.ptr' rfl rfl) (.cons (SubA.p rfl) .nil)) subt1 ?_
  conv => whnf
  refine netU (len20 [cp2, cp2]) 26 _ rfl rfl (by kernel_rfl) (.cons (SubA.ptr' rfl rfl) .nil) subt1 ?_
  conv => whnf
  exact ⟨_, rfl, FinR.id SubT.selfp⟩
end Go.Proofs.Am
