/- How the arguments of the law contra/contralaw09.ItemForward are read, and the plain statement that is to be proved: for all arguments that are good the plain function answers true. -/
import Derived.Test.YtpkfagbllafehaaQItemx8
import Derived.Test.YtpkfagbllafehaaOpn
import Derived.KernelRfl
namespace Go.Proofs.Ytpkfagbllafehaa.RdItemForward
open Go.RowKit Go.Proofs.YtpkfagbllafehaaW.PrintWords Go.Proofs.Ytpkfagbllafehaa.Opn Go.Proofs.Ytpkfagbllafehaa.QItem

def G3 (n : Int) : Prop := (Lit.int .i64 n).wf = true
theorem rd3 : Rd Try.prog 3 (Kd.int .i64) G3 := Rd.int Try.underlying3 (by kernel_rfl)
def G31 (x : S31) : Prop := G3 x.f0 ∧ G3 x.f1
set_option maxRecDepth 20000 in
theorem rd31 : Rd Try.prog 31 k31 G31 := (Rd.iso (fun x : S31 => (x.f0, x.f1)) (fun y => (⟨y.1, y.2⟩ : S31)) (fun _ => rfl) (Rd.struct Try.underlying31 (by kernel_rfl) (RdF.cons rd3 (RdF.one rd3 (by rfl) (by rfl)) (by rfl) (by rfl)))).imp (fun _ h => h)
def G2 (n : Int) : Prop := (Lit.int .i64 n).wf = true
theorem rd2 : Rd Try.prog 2 (Kd.int .i64) G2 := Rd.int Try.underlying2 (by kernel_rfl)
def G53 (x : S53) : Prop := G31 x.f0 ∧ G3 x.f1 ∧ G3 x.f2 ∧ G2 x.f3 ∧ G3 x.f4 ∧ G3 x.f5 ∧ G3 x.f6
set_option maxRecDepth 20000 in
theorem rd53 : Rd Try.prog 53 k53 G53 := (Rd.iso (fun x : S53 => (x.f0, x.f1, x.f2, x.f3, x.f4, x.f5, x.f6)) (fun y => (⟨y.1, y.2.1, y.2.2.1, y.2.2.2.1, y.2.2.2.2.1, y.2.2.2.2.2.1, y.2.2.2.2.2.2⟩ : S53)) (fun _ => rfl) (Rd.struct Try.underlying53 (by kernel_rfl) (RdF.cons rd31 (RdF.cons rd3 (RdF.cons rd3 (RdF.cons rd2 (RdF.cons rd3 (RdF.cons rd3 (RdF.one rd3 (by rfl) (by rfl)) (by rfl) (by rfl)) (by rfl) (by rfl)) (by rfl) (by rfl)) (by rfl) (by rfl)) (by rfl) (by rfl)) (by rfl) (by rfl)))).imp (fun _ h => h)
def G93 (x : S93) : Prop := G3 x.f0 ∧ G3 x.f1
set_option maxRecDepth 20000 in
theorem rd93 : Rd Try.prog 93 k93 G93 := (Rd.iso (fun x : S93 => (x.f0, x.f1)) (fun y => (⟨y.1, y.2⟩ : S93)) (fun _ => rfl) (Rd.arr2 Try.underlying93 (by kernel_rfl) rd3)).imp (fun _ h => h)
def G95 (l : (List S93)) : Prop := l.length * 16 ≤ 140737488351232 ∧ ∀ x ∈ l, G93 x
theorem bytes95 : Try.prog.bytesOf 93 = 16 := by kernel_rfl
theorem rd95 : Rd Try.prog 95 (Kd.slice 93 k93) G95 := (Rd.slice Try.underlying95 (by kernel_rfl) rd93).imp (fun l h => by rw [bytes95] at h; exact h)

def Pure : Prop := ∀ (a0 : S53) (a1 : (List S93)), G53 a0 → G95 a1 → ∃ k, contralaw09_ItemForward.f k a0.f0.f0 a0.f0.f1 a0.f1 a0.f2 a0.f3 a0.f4 a0.f5 a0.f6 a1 = some true
end Go.Proofs.Ytpkfagbllafehaa.RdItemForward
