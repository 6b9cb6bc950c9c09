/- The types of the program, as the walk looks at them: made by a program of this work, checked by the kernel. -/
import Derived.Test.YtpkfagbllafehaaAmP
import Derived.Test.YtpkfagbllafehaaProg
namespace Go.Proofs.Am
open Go Go.Proofs

def ti2 : TI := ⟨1, 8, [.p (.sc (.int .i64 0))], .int .i64, false⟩   -- int64
def ti3 : TI := ⟨1, 8, [.p (.sc (.int .i64 0))], .int .i64, false⟩   -- int
def ti4 : TI := ⟨1, 1, [.p (.sc (.bool false))], .bool, false⟩   -- bool
def ti5 : TI := ⟨1, 1, [.p (.sc (.int .u8 0))], .int .u8, false⟩   -- uint8
def ti9 : TI := ⟨1, 16, [.p (.sc (.string ⟨#[]⟩))], .string, false⟩   -- string
def ti12 : TI := ⟨1, 8, [.p (.sc (.int .u64 0))], .int .u64, false⟩   -- uintptr
def ti21 : TI := ⟨1, 4, [.p (.sc (.int .i32 0))], .int .i32, false⟩   -- int32
def ti22 : TI := ⟨1, 24, [.nil], .slice 28, false⟩   -- []contralaw13.Op
def ti24 : TI := ⟨1, 24, [.nil], .slice 37, false⟩   -- []link.Packet
def ti26 : TI := ⟨1, 24, [.nil], .struct [(0, 24)], true⟩   -- net.Net
def ti28 : TI := ⟨3, 40, [.p (.sc (.int .i64 0)), .p (.sc (.int .i64 0)), .nil], .struct [(0, 3), (1, 3), (2, 24)], true⟩   -- contralaw13.Op
def ti31 : TI := ⟨2, 16, [.p (.sc (.int .i64 0)), .p (.sc (.int .i64 0))], .struct [(0, 3), (1, 3)], true⟩   -- api.ID
def ti32 : TI := ⟨1, 24, [.nil], .slice 150, false⟩   -- []api.Line
def ti33 : TI := ⟨1, 24, [.nil], .slice 2, false⟩   -- []int64
def ti35 : TI := ⟨11, 120, [.p (.sc (.int .i64 0)), .p (.sc (.int .i64 0)), .p (.sc (.int .i64 0)), .p (.sc (.int .i64 0)), .p (.sc (.int .i64 0)), .p (.sc (.int .i64 0)), .p (.sc (.int .i64 0)), .p (.sc (.int .i64 0)), .p (.sc (.bool false)), .nil, .nil], .struct [(0, 3), (1, 31), (3, 3), (4, 3), (5, 3), (6, 3), (7, 2), (8, 4), (9, 32), (10, 33)], true⟩   -- api.Msg
def ti37 : TI := ⟨15, 152, [.p (.sc (.int .i64 0)), .p (.sc (.int .i64 0)), .p (.sc (.int .i64 0)), .p (.sc (.int .i64 0)), .p (.sc (.int .i64 0)), .p (.sc (.int .i64 0)), .p (.sc (.int .i64 0)), .p (.sc (.int .i64 0)), .p (.sc (.int .i64 0)), .p (.sc (.int .i64 0)), .p (.sc (.int .i64 0)), .p (.sc (.int .i64 0)), .p (.sc (.bool false)), .nil, .nil], .struct [(0, 3), (1, 3), (2, 3), (3, 3), (4, 35)], true⟩   -- link.Packet
def ti38 : TI := ⟨1, 8, [.p (.sc (.int .i64 0))], .int .i64, false⟩   -- api.Errno
def ti45 : TI := ⟨1, 24, [.nil], .slice 53, false⟩   -- []api.Item
def ti46 : TI := ⟨1, 24, [.nil], .slice 58, false⟩   -- [][3]int
def ti47 : TI := ⟨1, 24, [.nil], .slice 207, false⟩   -- []book.Order
def ti49 : TI := ⟨3, 56, [.p (.sc (.int .i64 0)), .nil, .nil], .struct [(0, 3), (1, 45), (2, 47)], true⟩   -- book.Book
def ti53 : TI := ⟨8, 64, [.p (.sc (.int .i64 0)), .p (.sc (.int .i64 0)), .p (.sc (.int .i64 0)), .p (.sc (.int .i64 0)), .p (.sc (.int .i64 0)), .p (.sc (.int .i64 0)), .p (.sc (.int .i64 0)), .p (.sc (.int .i64 0))], .struct [(0, 31), (2, 3), (3, 3), (4, 2), (5, 3), (6, 3), (7, 3)], true⟩   -- api.Item
def ti58 : TI := ⟨3, 24, [.p (.sc (.int .i64 0)), .p (.sc (.int .i64 0)), .p (.sc (.int .i64 0))], .array 3 3, false⟩   -- [3]int
def ti66 : TI := ⟨1, 24, [.nil], .slice 139, false⟩   -- []vector.Position
def ti68 : TI := ⟨1, 24, [.nil], .struct [(0, 66)], true⟩   -- vector.Vector
def ti73 : TI := ⟨1, 24, [.nil], .slice 35, false⟩   -- []api.Msg
def ti74 : TI := ⟨1, 24, [.nil], .slice 3, false⟩   -- []int
def ti75 : TI := ⟨1, 24, [.nil], .slice 86, false⟩   -- []link.Peer
def ti77 : TI := ⟨2, 32, [.p (.sc (.int .i64 0)), .nil], .struct [(0, 3), (1, 75)], true⟩   -- link.Links
def ti86 : TI := ⟨2, 32, [.nil, .p (.sc (.int .i64 0))], .struct [(0, 73), (1, 3)], true⟩   -- link.Peer
def ti89 : TI := ⟨1, 24, [.nil], .slice 4, false⟩   -- []bool
def ti90 : TI := ⟨4, 64, [.p (.sc (.int .i64 0)), .nil, .p (.sc (.int .i64 0)), .nil], .array 2 77, false⟩   -- [2]link.Links
def ti91 : TI := ⟨2, 48, [.nil, .nil], .array 2 73, false⟩   -- [2][]api.Msg
def ti93 : TI := ⟨2, 16, [.p (.sc (.int .i64 0)), .p (.sc (.int .i64 0))], .array 2 3, false⟩   -- [2]int
def ti95 : TI := ⟨1, 24, [.nil], .slice 93, false⟩   -- [][2]int
def ti99 : TI := ⟨1, 8, [.p (.sc (.pointer none))], .pointer 156, false⟩   -- *clock.Clock
def ti102 : TI := ⟨1, 24, [.nil], .slice 5, false⟩   -- []uint8
def ti103 : TI := ⟨1, 24, [.nil], .slice 9, false⟩   -- []string
def ti109 : TI := ⟨1, 24, [.nil], .slice 114, false⟩   -- []contralaw08.Op
def ti110 : TI := ⟨1, 24, [.nil], .slice 124, false⟩   -- []contraref08.Due
def ti112 : TI := ⟨2, 32, [.p (.sc (.int .i64 0)), .nil], .struct [(0, 3), (1, 110)], true⟩   -- contraref08.Clock
def ti114 : TI := ⟨3, 32, [.p (.sc (.int .i64 0)), .p (.sc (.int .i64 0)), .p (.sc (.string ⟨#[]⟩))], .struct [(0, 3), (1, 3), (2, 9)], true⟩   -- contralaw08.Op
def ti124 : TI := ⟨2, 24, [.p (.sc (.string ⟨#[]⟩)), .p (.sc (.int .i64 0))], .struct [(0, 9), (1, 3)], true⟩   -- contraref08.Due
def ti126 : TI := ⟨1, 8, [.p (.sc (.map none))], .other, false⟩   -- map[string]int
def ti128 : TI := ⟨1, 8, [.p (.sc (.pointer none))], .pointer 26, false⟩   -- *net.Net
def ti139 : TI := ⟨3, 24, [.p (.sc (.int .i64 0)), .p (.sc (.int .i64 0)), .p (.sc (.int .i64 0))], .struct [(0, 3), (1, 3), (2, 2)], true⟩   -- vector.Position
def ti150 : TI := ⟨4, 32, [.p (.sc (.int .i64 0)), .p (.sc (.int .i64 0)), .p (.sc (.int .i64 0)), .p (.sc (.int .i64 0))], .struct [(0, 31), (2, 3), (3, 2)], true⟩   -- api.Line
def ti152 : TI := ⟨1, 8, [.p (.sc (.map none))], .other, false⟩   -- map[string]*clock.due
def ti153 : TI := ⟨1, 24, [.nil], .slice 157, false⟩   -- []*clock.due
def ti154 : TI := ⟨1, 24, [.nil], .slice 157, false⟩   -- clock.queue
def ti156 : TI := ⟨4, 48, [.p (.sc (.int .i64 0)), .p (.sc (.int .i64 0)), .nil, .p (.sc (.map none))], .struct [(0, 3), (1, 3), (2, 154), (3, 152)], true⟩   -- clock.Clock
def ti157 : TI := ⟨1, 8, [.p (.sc (.pointer none))], .pointer 160, false⟩   -- *clock.due
def ti160 : TI := ⟨4, 40, [.p (.sc (.string ⟨#[]⟩)), .p (.sc (.int .i64 0)), .p (.sc (.int .i64 0)), .p (.sc (.int .i64 0))], .struct [(0, 9), (1, 3), (2, 3), (3, 3)], true⟩   -- clock.due
def ti162 : TI := ⟨1, 8, [.p (.sc (.pointer none))], .pointer 154, false⟩   -- *clock.queue
def ti169 : TI := ⟨1, 8, [.p (.sc (.int .u64 0))], .int .u64, false⟩   -- uint
def ti173 : TI := ⟨1, 8, [.p (.sc (.int .u64 0))], .int .u64, false⟩   -- uint64
def ti175 : TI := ⟨2, 16, [.p (.sc (.int .i64 0)), .p (.sc (.int .u64 0))], .struct [(0, 2), (1, 173)], true⟩   -- money.wide
def ti182 : TI := ⟨1, 16, [.p (.sc .nilIface)], .other, false⟩   -- heap.Interface
def ti194 : TI := ⟨0, 0, [], .array 0 16, false⟩   -- [0]*runtime.PanicNilError
def ti197 : TI := ⟨1, 4, [.p (.sc (.int .u32 0))], .int .u32, false⟩   -- uint32
def ti201 : TI := ⟨1, 8, [.p (.sc (.pointer none))], .pointer 5, false⟩   -- *uint8
def ti207 : TI := ⟨3, 24, [.p (.sc (.int .i64 0)), .p (.sc (.int .i64 0)), .p (.sc (.int .i64 0))], .struct [(0, 31), (2, 2)], true⟩   -- book.Order
def ti210 : TI := ⟨1, 8, [.p (.sc (.pointer none))], .other, false⟩   -- unsafe.Pointer
def tab : List (Nat × TI) := [(2, ti2), (3, ti3), (4, ti4), (5, ti5), (9, ti9), (12, ti12), (21, ti21), (22, ti22), (24, ti24), (26, ti26), (28, ti28), (31, ti31), (32, ti32), (33, ti33), (35, ti35), (37, ti37), (38, ti38), (45, ti45), (46, ti46), (47, ti47), (49, ti49), (53, ti53), (58, ti58), (66, ti66), (68, ti68), (73, ti73), (74, ti74), (75, ti75), (77, ti77), (86, ti86), (89, ti89), (90, ti90), (91, ti91), (93, ti93), (95, ti95), (99, ti99), (102, ti102), (103, ti103), (109, ti109), (110, ti110), (112, ti112), (114, ti114), (124, ti124), (126, ti126), (128, ti128), (139, ti139), (150, ti150), (152, ti152), (153, ti153), (154, ti154), (156, ti156), (157, ti157), (160, ti160), (162, ti162), (169, ti169), (173, ti173), (175, ti175), (182, ti182), (194, ti194), (197, ti197), (201, ti201), (207, ti207), (210, ti210)]
theorem tok2 : tiOf Try.prog 2 = some ti2 := by kernel_rfl
theorem tok3 : tiOf Try.prog 3 = some ti3 := by kernel_rfl
theorem tok4 : tiOf Try.prog 4 = some ti4 := by kernel_rfl
theorem tok5 : tiOf Try.prog 5 = some ti5 := by kernel_rfl
theorem tok9 : tiOf Try.prog 9 = some ti9 := by kernel_rfl
theorem tok12 : tiOf Try.prog 12 = some ti12 := by kernel_rfl
theorem tok21 : tiOf Try.prog 21 = some ti21 := by kernel_rfl
theorem tok22 : tiOf Try.prog 22 = some ti22 := by kernel_rfl
theorem tok24 : tiOf Try.prog 24 = some ti24 := by kernel_rfl
theorem tok26 : tiOf Try.prog 26 = some ti26 := by kernel_rfl
theorem tok28 : tiOf Try.prog 28 = some ti28 := by kernel_rfl
theorem tok31 : tiOf Try.prog 31 = some ti31 := by kernel_rfl
theorem tok32 : tiOf Try.prog 32 = some ti32 := by kernel_rfl
theorem tok33 : tiOf Try.prog 33 = some ti33 := by kernel_rfl
theorem tok35 : tiOf Try.prog 35 = some ti35 := by kernel_rfl
theorem tok37 : tiOf Try.prog 37 = some ti37 := by kernel_rfl
theorem tok38 : tiOf Try.prog 38 = some ti38 := by kernel_rfl
theorem tok45 : tiOf Try.prog 45 = some ti45 := by kernel_rfl
theorem tok46 : tiOf Try.prog 46 = some ti46 := by kernel_rfl
theorem tok47 : tiOf Try.prog 47 = some ti47 := by kernel_rfl
theorem tok49 : tiOf Try.prog 49 = some ti49 := by kernel_rfl
theorem tok53 : tiOf Try.prog 53 = some ti53 := by kernel_rfl
theorem tok58 : tiOf Try.prog 58 = some ti58 := by kernel_rfl
theorem tok66 : tiOf Try.prog 66 = some ti66 := by kernel_rfl
theorem tok68 : tiOf Try.prog 68 = some ti68 := by kernel_rfl
theorem tok73 : tiOf Try.prog 73 = some ti73 := by kernel_rfl
theorem tok74 : tiOf Try.prog 74 = some ti74 := by kernel_rfl
theorem tok75 : tiOf Try.prog 75 = some ti75 := by kernel_rfl
theorem tok77 : tiOf Try.prog 77 = some ti77 := by kernel_rfl
theorem tok86 : tiOf Try.prog 86 = some ti86 := by kernel_rfl
theorem tok89 : tiOf Try.prog 89 = some ti89 := by kernel_rfl
theorem tok90 : tiOf Try.prog 90 = some ti90 := by kernel_rfl
theorem tok91 : tiOf Try.prog 91 = some ti91 := by kernel_rfl
theorem tok93 : tiOf Try.prog 93 = some ti93 := by kernel_rfl
theorem tok95 : tiOf Try.prog 95 = some ti95 := by kernel_rfl
theorem tok99 : tiOf Try.prog 99 = some ti99 := by kernel_rfl
theorem tok102 : tiOf Try.prog 102 = some ti102 := by kernel_rfl
theorem tok103 : tiOf Try.prog 103 = some ti103 := by kernel_rfl
theorem tok109 : tiOf Try.prog 109 = some ti109 := by kernel_rfl
theorem tok110 : tiOf Try.prog 110 = some ti110 := by kernel_rfl
theorem tok112 : tiOf Try.prog 112 = some ti112 := by kernel_rfl
theorem tok114 : tiOf Try.prog 114 = some ti114 := by kernel_rfl
theorem tok124 : tiOf Try.prog 124 = some ti124 := by kernel_rfl
theorem tok126 : tiOf Try.prog 126 = some ti126 := by kernel_rfl
theorem tok128 : tiOf Try.prog 128 = some ti128 := by kernel_rfl
theorem tok139 : tiOf Try.prog 139 = some ti139 := by kernel_rfl
theorem tok150 : tiOf Try.prog 150 = some ti150 := by kernel_rfl
theorem tok152 : tiOf Try.prog 152 = some ti152 := by kernel_rfl
theorem tok153 : tiOf Try.prog 153 = some ti153 := by kernel_rfl
theorem tok154 : tiOf Try.prog 154 = some ti154 := by kernel_rfl
theorem tok156 : tiOf Try.prog 156 = some ti156 := by kernel_rfl
theorem tok157 : tiOf Try.prog 157 = some ti157 := by kernel_rfl
theorem tok160 : tiOf Try.prog 160 = some ti160 := by kernel_rfl
theorem tok162 : tiOf Try.prog 162 = some ti162 := by kernel_rfl
theorem tok169 : tiOf Try.prog 169 = some ti169 := by kernel_rfl
theorem tok173 : tiOf Try.prog 173 = some ti173 := by kernel_rfl
theorem tok175 : tiOf Try.prog 175 = some ti175 := by kernel_rfl
theorem tok182 : tiOf Try.prog 182 = some ti182 := by kernel_rfl
theorem tok194 : tiOf Try.prog 194 = some ti194 := by kernel_rfl
theorem tok197 : tiOf Try.prog 197 = some ti197 := by kernel_rfl
theorem tok201 : tiOf Try.prog 201 = some ti201 := by kernel_rfl
theorem tok207 : tiOf Try.prog 207 = some ti207 := by kernel_rfl
theorem tok210 : tiOf Try.prog 210 = some ti210 := by kernel_rfl
theorem TabOk.nil (P : Program) : TabOk P [] := fun t ti h => by simp [look] at h
theorem TabOk.cons {P : Program} {t : Nat} {ti : TI} {l : List (Nat × TI)} (h : tiOf P t = some ti) (k : TabOk P l) : TabOk P ((t, ti) :: l) := fun s si hl => by
  unfold look at hl
  cases hb : Nat.beq t s
  · rw [hb] at hl; exact k s si hl
  · rw [hb] at hl
    simp only [cond_true, Option.some.injEq] at hl
    have := Nat.eq_of_beq_eq_true hb
    subst this; subst hl; exact h
theorem tabOk : TabOk Try.prog tab :=
  .cons tok2 <| .cons tok3 <| .cons tok4 <| .cons tok5 <| .cons tok9 <| .cons tok12 <| .cons tok21 <| .cons tok22 <| .cons tok24 <| .cons tok26 <| .cons tok28 <| .cons tok31 <| .cons tok32 <| .cons tok33 <| .cons tok35 <| .cons tok37 <| .cons tok38 <| .cons tok45 <| .cons tok46 <| .cons tok47 <| .cons tok49 <| .cons tok53 <| .cons tok58 <| .cons tok66 <| .cons tok68 <| .cons tok73 <| .cons tok74 <| .cons tok75 <| .cons tok77 <| .cons tok86 <| .cons tok89 <| .cons tok90 <| .cons tok91 <| .cons tok93 <| .cons tok95 <| .cons tok99 <| .cons tok102 <| .cons tok103 <| .cons tok109 <| .cons tok110 <| .cons tok112 <| .cons tok114 <| .cons tok124 <| .cons tok126 <| .cons tok128 <| .cons tok139 <| .cons tok150 <| .cons tok152 <| .cons tok153 <| .cons tok154 <| .cons tok156 <| .cons tok157 <| .cons tok160 <| .cons tok162 <| .cons tok169 <| .cons tok173 <| .cons tok175 <| .cons tok182 <| .cons tok194 <| .cons tok197 <| .cons tok201 <| .cons tok207 <| .cons tok210 <| .nil _
theorem tabOne : oneB tab = true := by kernel_rfl
theorem mixed : Try.prog.follows .mixedOrders = true := by kernel_rfl
end Go.Proofs.Am
