/- How the arguments of the laws over packets are read. -/
import Derived.Test.YtpkfagbllafehaaAmRead
import Derived.KernelRfl
namespace Go.Proofs.Am
open Go Go.RowKit
set_option maxRecDepth 20000
theorem rd3 : Rd Try.prog 3 (fun ps => ∃ n, ps = [iv n]) := (Rd.int Try.underlying3 (by kernel_rfl)).imp fun _ ⟨n, h, _⟩ => ⟨n, h⟩
theorem rd2 : Rd Try.prog 2 (fun ps => ∃ n, ps = [iv n]) := (Rd.int Try.underlying2 (by kernel_rfl)).imp fun _ ⟨n, h, _⟩ => ⟨n, h⟩
theorem rd4 : Rd Try.prog 4 (fun ps => ∃ b, ps = [bv b]) := Rd.bool Try.underlying4 (by kernel_rfl)
theorem rd31 : Rd Try.prog 31 (fun ps => ∃ a b, ps = [iv a, iv b]) :=
  (Rd.struct Try.underlying31 (by kernel_rfl) (RdF.cons (sz := 1) rd3 (by kernel_rfl) (RdF.cons (sz := 1) rd3 (by kernel_rfl) RdF.nil rfl rfl) rfl rfl)).imp fun ps h => by
    obtain ⟨_, _, rfl, ⟨a, rfl⟩, _, _, rfl, ⟨b, rfl⟩, rfl⟩ := h
    exact ⟨a, b, rfl⟩
theorem rd150 : Rd Try.prog 150 (fun ps => ∃ l : PLine, ps = l.cells ∧ True) :=
  (Rd.struct Try.underlying150 (by kernel_rfl) (RdF.cons (sz := 2) rd31 (by kernel_rfl) (RdF.cons (sz := 1) rd3 (by kernel_rfl) (RdF.cons (sz := 1) rd2 (by kernel_rfl) RdF.nil rfl rfl) rfl rfl) rfl rfl)).imp fun ps h => by
    obtain ⟨_, _, rfl, ⟨a, b, rfl⟩, _, _, rfl, ⟨c, rfl⟩, _, _, rfl, ⟨d, rfl⟩, rfl⟩ := h
    exact ⟨⟨a, b, c, d⟩, rfl, trivial⟩
theorem bytes150 : Try.prog.bytesOf 150 = 32 := by kernel_rfl
theorem bytes2 : Try.prog.bytesOf 2 = 8 := by kernel_rfl
theorem rd32 : Rd Try.prog 32 (fun ps => ∃ l : List PLine, ps = [.seq 4 (lineRows l)] ∧ l.length * 32 ≤ 140737488351232) :=
  (Rd.slice 4 Try.underlying32 (by kernel_rfl) (by kernel_rfl) (by decide) (by rw [bytes150]; decide) rd150).imp fun ps h => by
    obtain ⟨rows, rfl, h1, h2⟩ := h
    obtain ⟨l, rfl, _⟩ := rows_of h1
    rw [bytes150, List.length_map] at h2
    exact ⟨l, rfl, h2⟩
theorem rd33 : Rd Try.prog 33 (fun ps => ∃ l : List Int, ps = [.seq 1 (intRows l)] ∧ l.length * 8 ≤ 140737488351232) :=
  (Rd.slice 1 Try.underlying33 (by kernel_rfl) (by kernel_rfl) (by decide) (by rw [bytes2]; decide) (rd2.imp (R' := fun ps => ∃ n, ps = [iv n] ∧ True) fun _ ⟨n, h⟩ => ⟨n, h, trivial⟩)).imp fun ps h => by
    obtain ⟨rows, rfl, h1, h2⟩ := h
    obtain ⟨l, rfl, _⟩ := rows_of h1
    rw [bytes2, List.length_map] at h2
    exact ⟨l, rfl, h2⟩
theorem rd35 : Rd Try.prog 35 (fun ps => ∃ m : PMsg, ps = m.cells ∧ m.fits) :=
  (Rd.struct Try.underlying35 (by kernel_rfl) (RdF.cons (sz := 1) rd3 (by kernel_rfl) (RdF.cons (sz := 2) rd31 (by kernel_rfl) (RdF.cons (sz := 1) rd3 (by kernel_rfl) (RdF.cons (sz := 1) rd3 (by kernel_rfl) (RdF.cons (sz := 1) rd3 (by kernel_rfl)
    (RdF.cons (sz := 1) rd3 (by kernel_rfl) (RdF.cons (sz := 1) rd2 (by kernel_rfl) (RdF.cons (sz := 1) rd4 (by kernel_rfl) (RdF.cons (sz := 1) rd32 (by kernel_rfl) (RdF.cons (sz := 1) rd33 (by kernel_rfl) RdF.nil rfl rfl) rfl rfl) rfl rfl) rfl rfl) rfl rfl) rfl rfl) rfl rfl) rfl rfl) rfl rfl) rfl rfl)).imp fun ps h => by
    obtain ⟨_, _, rfl, ⟨a, rfl⟩, _, _, rfl, ⟨b, c, rfl⟩, _, _, rfl, ⟨d, rfl⟩, _, _, rfl, ⟨e, rfl⟩, _, _, rfl, ⟨f, rfl⟩, _, _, rfl, ⟨g, rfl⟩, _, _, rfl, ⟨h, rfl⟩, _, _, rfl, ⟨i, rfl⟩, _, _, rfl, ⟨l, rfl, hl⟩, _, _, rfl, ⟨n, rfl, hn⟩, rfl⟩ := h
    exact ⟨⟨a, b, c, d, e, f, g, h, i, l, n⟩, rfl, by show l.length * 32 ≤ _; omega, by show n.length * 8 ≤ _; omega⟩
theorem rd37 : Rd Try.prog 37 (fun ps => ∃ p : PPacket, ps = p.cells ∧ p.msg.fits) :=
  (Rd.struct Try.underlying37 (by kernel_rfl) (RdF.cons (sz := 1) rd3 (by kernel_rfl) (RdF.cons (sz := 1) rd3 (by kernel_rfl) (RdF.cons (sz := 1) rd3 (by kernel_rfl) (RdF.cons (sz := 1) rd3 (by kernel_rfl) (RdF.cons (sz := 11) rd35 (by kernel_rfl) RdF.nil rfl rfl) rfl rfl) rfl rfl) rfl rfl) rfl rfl)).imp fun ps h => by
    obtain ⟨_, _, rfl, ⟨a, rfl⟩, _, _, rfl, ⟨b, rfl⟩, _, _, rfl, ⟨c, rfl⟩, _, _, rfl, ⟨d, rfl⟩, _, _, rfl, ⟨m, rfl, hm⟩, rfl⟩ := h
    exact ⟨⟨a, b, c, d, m⟩, rfl, hm⟩
theorem rd24 : Rd Try.prog 24 (fun ps => ∃ l : List PPacket, ps = [.seq 15 (packRows l)] ∧ ∀ p ∈ l, p.msg.fits) :=
  (Rd.slice 15 Try.underlying24 (by kernel_rfl) (by kernel_rfl) (by decide) (by rw [show Try.prog.bytesOf 37 = 152 by kernel_rfl]; decide) rd37).imp fun ps h => by
    obtain ⟨rows, rfl, h1, _⟩ := h
    obtain ⟨l, rfl, hl⟩ := rows_of h1
    exact ⟨l, rfl, hl⟩
theorem rd28 : Rd Try.prog 28 (fun ps => ∃ o : POp, ps = o.cells ∧ ∀ p ∈ o.list, p.msg.fits) :=
  (Rd.struct Try.underlying28 (by kernel_rfl) (RdF.cons (sz := 1) rd3 (by kernel_rfl) (RdF.cons (sz := 1) rd3 (by kernel_rfl) (RdF.cons (sz := 1) rd24 (by kernel_rfl) RdF.nil rfl rfl) rfl rfl) rfl rfl)).imp fun ps h => by
    obtain ⟨_, _, rfl, ⟨a, rfl⟩, _, _, rfl, ⟨b, rfl⟩, _, _, rfl, ⟨l, rfl, hl⟩, rfl⟩ := h
    exact ⟨⟨a, b, l⟩, rfl, hl⟩
theorem rd22 : Rd Try.prog 22 (fun ps => ∃ s : List POp, ps = [.seq 3 (opRows s)] ∧ ∀ o ∈ s, ∀ p ∈ o.list, p.msg.fits) :=
  (Rd.slice 3 Try.underlying22 (by kernel_rfl) (by kernel_rfl) (by decide) (by rw [show Try.prog.bytesOf 28 = 40 by kernel_rfl]; decide) rd28).imp fun ps h => by
    obtain ⟨rows, rfl, h1, _⟩ := h
    obtain ⟨l, rfl, hl⟩ := rows_of h1
    exact ⟨l, rfl, hl⟩
end Go.Proofs.Am
