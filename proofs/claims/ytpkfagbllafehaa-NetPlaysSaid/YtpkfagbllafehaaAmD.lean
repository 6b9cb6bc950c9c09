/- The operations over such values: types, local variables, loads and stores. -/
import Derived.Test.YtpkfagbllafehaaAmC
import Derived.Laws.CopyRow
import Derived.Laws.StructEq
namespace Go.Proofs.Am
open Go Go.RowKit
set_option linter.unusedVariables false
set_option linter.unusedSimpArgs false

inductive Ty where
  | struct (fs : List (Nat × Nat))
  | array (n e : Nat)
  | slice (e : Nat)
  | int (k : IntKind)
  | bool
  | string
  | pointer (e : Nat)
  | other
structure TI where
  size : Nat
  bytes : Nat
  zero : List AV
  ty : Ty
  eqok : Bool

def tyOf : TypeDesc → Ty
  | .struct fs => .struct (fs.toList.map fun f => (f.offset, f.type))
  | .array n e => .array n e
  | .slice e => .slice e
  | .int k => .int k
  | .bool => .bool
  | .string => .string
  | .pointer e => .pointer e
  | _ => .other
def eqokOf (P : Program) (t : TypeId) (d : TypeDesc) : Bool :=
  match d with
  | .struct fs => !P.stoodInHeld t && fs.toList.all (fun f => !(f.name == "_")) && !P.eqGuardType P.depth t
  | _ => false
def tiOf (P : Program) (t : TypeId) : Option TI :=
  match P.info? t with
  | none => none
  | some i => match i.zero with
    | none => none
    | some z => match P.underlying t with
      | none => none
      | some d => bif z.cells.toList.all (fun u => u.oneCell') && Nat.beq z.cells.size i.size then some ⟨i.size, i.bytes, z.cells.toList.map cellAV, tyOf d, eqokOf P t d⟩ else none

def TabOk (P : Program) (tab : List (Nat × TI)) : Prop := ∀ t ti, look tab t = some ti → tiOf P t = some ti

structure TF (P : Program) (t : TypeId) (ti : TI) (i : TypeInfo) (z : Value) (d : TypeDesc) : Prop where
  info : P.info? t = some i
  zero : i.zero = some z
  und : P.underlying t = some d
  size : ti.size = i.size
  bytes : ti.bytes = i.bytes
  zs : z.cells.size = i.size
  z1 : ∀ u, u ∈ z.cells.toList → u.oneCell' = true
  zr : ti.zero = z.cells.toList.map cellAV
  ty : ti.ty = tyOf d
  eqok : ti.eqok = eqokOf P t d

theorem TabOk.get {P : Program} {tab : List (Nat × TI)} (h : TabOk P tab) {t : Nat} {ti : TI} (hl : look tab t = some ti) : ∃ i z d, TF P t ti i z d := by
  have h := h t ti hl
  unfold tiOf at h
  split at h
  · cases h
  · rename_i i hi
    split at h
    · cases h
    · rename_i z hz
      split at h
      · cases h
      · rename_i d hd
        cases hc : (z.cells.toList.all (fun u => u.oneCell') && Nat.beq z.cells.size i.size)
        · rw [hc] at h; cases h
        · rw [hc] at h
          simp only [cond_true, Option.some.injEq] at h
          subst h
          rw [Bool.and_eq_true] at hc
          exact ⟨i, z, d, ⟨hi, hz, hd, rfl, rfl, Nat.eq_of_beq_eq_true hc.2, List.all_eq_true.1 hc.1, rfl, rfl, rfl⟩⟩

theorem tyOf_slice {d : TypeDesc} {e : Nat} (h : tyOf d = .slice e) : d = .slice e := by cases d <;> simp [tyOf] at h; subst h; rfl
theorem tyOf_array {d : TypeDesc} {n e : Nat} (h : tyOf d = .array n e) : d = .array n e := by cases d <;> simp [tyOf] at h; obtain ⟨rfl, rfl⟩ := h; rfl
theorem tyOf_struct {d : TypeDesc} {fs : List (Nat × Nat)} (h : tyOf d = .struct fs) : ∃ f : Array Field, d = .struct f ∧ fs = f.toList.map fun f => (f.offset, f.type) := by cases d <;> simp [tyOf] at h; exact ⟨_, rfl, h.symm⟩
theorem tyOf_int {d : TypeDesc} {k : IntKind} (h : tyOf d = .int k) : d = .int k := by cases d <;> simp [tyOf] at h; subst h; rfl
theorem tyOf_bool {d : TypeDesc} (h : tyOf d = .bool) : d = .bool := by cases d <;> simp [tyOf] at h; rfl
theorem tyOf_string {d : TypeDesc} (h : tyOf d = .string) : d = .string := by cases d <;> simp [tyOf] at h; rfl
theorem tyOf_pointer {d : TypeDesc} {e : Nat} (h : tyOf d = .pointer e) : d = .pointer e := by cases d <;> simp [tyOf] at h; subst h; rfl

def TI.agg (ti : TI) : Bool := match ti.ty with
  | .struct _ => true
  | .array _ _ => true
  | _ => false

section
variable {P : Program} {t : TypeId} {ti : TI} {i : TypeInfo} {z : Value} {d : TypeDesc}
theorem TF.run_info (h : TF P t ti i z d) (w : World) : (typeInfo t).run P w = .ok i w := by simp [typeInfo, h.info]
theorem TF.run_size (h : TF P t ti i z d) (w : World) : (sizeOf t).run P w = .ok ti.size w := by simp [sizeOf, h.run_info w, h.size]
theorem TF.run_zero (h : TF P t ti i z d) (w : World) : (zeroValue t).run P w = .ok z w := by simp [zeroValue, h.run_info w, h.zero]
theorem TF.run_und (h : TF P t ti i z d) (w : World) : (underlying t).run P w = .ok d w := run_underlying h.und w
theorem TF.run_agg (h : TF P t ti i z d) (w : World) : (isAgg t).run P w = .ok ti.agg w := by
  have := h.ty
  simp only [isAgg, Sem.run_bind, h.run_und w, Result.andThen_ok, TI.agg, this]
  cases d <;> rfl
theorem cells1 (E : Env) : ∀ (l : List Value), (∀ u, u ∈ l → u.oneCell' = true) → All2 (Cell1 E) (l.map cellAV) l
  | [], _ => .nil
  | v :: l, h => .cons ⟨rep1_cellAV E v, h v List.mem_cons_self⟩ (cells1 E l fun u hu => h u (List.mem_cons_of_mem _ hu))
theorem TF.zeroRep (h : TF P t ti i z d) (E : Env) : All2 (Cell1 E) ti.zero z.cells.toList := by rw [h.zr]; exact cells1 E _ h.z1
theorem TF.zeroLen (h : TF P t ti i z d) : ti.zero.length = ti.size := by rw [h.zr, h.size, ← h.zs]; simp
end

theorem OpSem.of_run {P : Program} {o : Oper} {ρ : Operand → AV} {H : Nat → Option Blk} {F : Nat → Prop} {H' : Nat → Option Blk} {x : AV}
    (h : ∀ (a : Act) (E : Env), (∀ u, u ∈ o.op.operands → Rep E (ρ u) (a.eval u)) → HeapOk E H → (∀ id, F id → E.e id = none) → (∀ b, E.ok b → b < E.w.heap.size) →
      ∃ v E', ((execOp a.eval o).run P E.w = .ok (.value v) E'.w ∨ (v = undef ∧ (execOp a.eval o).run P E.w = .ok .skip E'.w)) ∧ Post E H F E' H' x v) : OpSem P o ρ H F H' x := by
  intro Q K a E h1 h2 h3 h4 k
  obtain ⟨v, E', hr, p⟩ := h a E h1 h2 h3 h4
  unfold Oper.wp
  rcases hr with hr | ⟨rfl, hr⟩
  · rw [hr]; exact k v E' p
  · rw [hr]; exact k undef E' p

theorem OpSem.of_pure {P : Program} {o : Oper} {ρ : Operand → AV} {H : Nat → Option Blk} {F : Nat → Prop} {x : AV}
    (h : ∀ (a : Act) (E : Env), (∀ u, u ∈ o.op.operands → Rep E (ρ u) (a.eval u)) → HeapOk E H → ∃ v, (execOp a.eval o).run P E.w = .ok (.value v) E.w ∧ Rep E x v) : OpSem P o ρ H F H x :=
  OpSem.of_run fun a E h1 h2 h3 h4 => let ⟨v, h5, h6⟩ := h a E h1 h2; ⟨v, E, .inl h5, Post.refl h2 h4 h6⟩

/-- A new own variable. -/
def Env.new (E : Env) (m : Nat) (r : Root) (w' : World) : Env := ⟨fun id => if id = m then some r else E.e id, E.ok, w'⟩
def single (m : Nat) (k : Blk) : Nat → Option Blk := fun id => if id = m then some k else none

theorem Env.new_ext {E : Env} {m : Nat} {r : Root} {w' : World} (he : E.e m = none) (hw : ∀ b, E.ok b → w'.heap[b]? = E.w.heap[b]?) : Ext E (E.new m r w') :=
  ⟨fun id q h => by simp only [Env.new]; split; · (subst_vars; rw [he] at h; cases h)
                    · exact h, fun _ h => h, hw⟩

theorem post_new {E : Env} {H : Nat → Option Blk} {F : Nat → Prop} {m : Nat} {r : Root} {w' : World} {k : Blk} {x : AV} {v : Value} {o : Obj} (hb : ∀ b, E.ok b → b < E.w.heap.size) (hm : F m) (he : E.e m = none)
    (h1 : w'.heap = E.w.heap.push o) (h2 : w'.os = E.w.os) (h3 : w'.tape = E.w.tape) (h4 : w'.output = E.w.output) (hr : r.b = E.w.heap.size)
    (hk : BlkRep (E.new m r w') r k) (hx : Rep (E.new m r w') x v) : Post E H F (E.new m r w') (single m k) x v := by
  have old : ∀ b, b < E.w.heap.size → w'.heap[b]? = E.w.heap[b]? := fun b hb => by rw [h1, Array.getElem?_push, if_neg (by omega)]
  have ex := Env.new_ext (r := r) he (w' := w') fun b h => old b (hb b h)
  refine ⟨ex.e, fun id h h' => ?_, ex.ok, fun b h => .inl h, fun b h => ?_, hx, ⟨fun id k' h => ?_, fun id id' k' k'' r' r'' h h' _ _ _ _ _ => ?_⟩, fun id k' r' h he' hc => ?_, ?_⟩
  · simp only [Env.new] at h'
    split at h'
    · subst_vars; exact hm
    · exact (h' h).elim
  · show b < w'.heap.size
    have := hb b h
    rw [h1, Array.size_push]; omega
  · simp only [single] at h
    split at h
    · rename_i hid; subst hid; cases h
      refine ⟨r, by simp [Env.new], hk, fun _ => ⟨?_, fun hok => ?_⟩⟩
      · show r.b < w'.heap.size
        rw [h1, Array.size_push, hr]; omega
      · have := hb _ hok; rw [hr] at this; omega
    · cases h
  · simp only [single] at h h'
    split at h
    · split at h'
      · subst_vars; rfl
      · cases h'
    · cases h
  · simp only [single] at h
    split at h
    · rename_i hid; subst hid
      simp only [Env.new, if_true, Option.some.injEq] at he'
      subst he'; exact .inl (by omega)
    · cases h
  · exact ⟨h2, h3, h4, by show _ ≤ w'.heap.size; rw [h1, Array.size_push]; omega, fun b hb _ => old b hb⟩

def cellsA : AV → Option (List AV)
  | .agg cs => some cs
  | .any => none
  | .und => none
  | .tup _ => none
  | .p x => some [.p x]
  | .nil => some [.nil]
  | .emp => some [.emp]
  | .ptr a b c => some [.ptr a b c]
  | .fptr a b c d => some [.fptr a b c d]
  | .sl a b c => some [.sl a b c]
  | .fn f c => some [.fn f c]

theorem rep1_one {E : Env} {x : AV} {v : Value} (h : Rep1 E x v) (hx : cellsA x = some [x]) : v.oneCell' = true := by
  cases x <;> simp only [Rep1] at h <;> simp [cellsA] at hx
  case nil => subst h; rfl
  case emp => obtain ⟨a, c, rfl⟩ := h; rfl
  case p => exact h.one
  case ptr => obtain ⟨r, _, rfl⟩ := h; rfl
  case fptr => obtain ⟨b, o, c, _, rfl⟩ := h; rfl
  case sl => obtain ⟨r, a, _, _, _, rfl⟩ := h; rfl
  case fn => obtain ⟨vs, rfl, _⟩ := h; rfl
theorem cells_one {v : Value} (h : v.oneCell' = true) : v.cells.toList = [v] := by
  cases v <;> first | rfl | (simp [Value.oneCell'] at h)
def AV.leaf : AV → Bool
  | .agg _ => false
  | .tup _ => false
  | _ => true
theorem rep1_of {E : Env} {x : AV} {v : Value} (h : Rep E x v) (hx : x.leaf = true) : Rep1 E x v := by
  cases x <;> first | exact h | (simp [AV.leaf] at hx)
theorem rep_cells {E : Env} {x : AV} {v : Value} {cs : List AV} (h : cellsA x = some cs) (hr : Rep E x v) : All2 (Cell1 E) cs v.cells.toList := by
  cases x <;> simp only [cellsA, Option.some.injEq] at h
  case agg cs' =>
    subst h
    obtain ⟨vs, rfl, h2⟩ := hr
    exact h2
  case any => cases h
  case und => cases h
  case tup => cases h
  all_goals
    subst h
    have hr1 := rep1_of hr rfl
    have h1 := rep1_one hr1 rfl
    rw [cells_one h1]
    exact .cons ⟨hr1, h1⟩ .nil

/-- The value of so many cells. -/
def valA (agg : Bool) (cs : List AV) : Option AV :=
  match agg, cs with
  | true, cs => some (.agg cs)
  | false, [.agg _] => none
  | false, [.tup _] => none
  | false, [x] => some x
  | false, _ => none
def valV (agg : Bool) (vs : List Value) : Value :=
  match agg, vs with
  | true, vs => .agg vs.toArray
  | false, v :: _ => v
  | false, [] => undef
theorem rep_val {E : Env} {g : Bool} {cs : List AV} {vs : List Value} {x : AV} (h : valA g cs = some x) (hr : All2 (Cell1 E) cs vs) : Rep E x (valV g vs) := by
  cases g
  · cases hr with
    | nil => simp [valA] at h
    | cons h1 t =>
      cases t with
      | nil =>
        rename_i a b
        have : valA false [a] = some x := h
        cases a <;> simp [valA] at this <;> subst this <;> exact h1.1
      | cons h2 t => simp [valA] at h
  · simp only [valA, Option.some.injEq] at h
    subst h
    exact ⟨vs, rfl, hr⟩

theorem run_loadVar_cells {P : Program} {t : TypeId} {ti : TI} {i : TypeInfo} {z : Value} {d : TypeDesc} (h : TF P t ti i z d) (w : World) (b o : Nat) (vs : List Value) (hl : vs.length = ti.size) (h1 : ti.agg = false → ti.size = 1)
    (hc : ∀ j v, vs[j]? = some v → w.cell? ⟨b, o + j, none⟩ = some v) : (loadVar t ⟨b, o, none⟩).run P w = .ok (valV ti.agg vs) w := by
  unfold loadVar
  simp only [Sem.run_bind, h.run_agg w, Result.andThen_ok]
  cases hg : ti.agg
  · have : vs.length = 1 := by rw [hl, h1 hg]
    obtain ⟨v, rfl⟩ : ∃ v, vs = [v] := by
      match vs, this with
      | [v], _ => exact ⟨v, rfl⟩
    simp only [Bool.false_eq_true, if_false]
    have := hc 0 v rfl
    rw [Nat.add_zero] at this
    simp [this, valV]
  · simp only [if_true, Sem.run_bind, h.run_size w, Result.andThen_ok]
    have := run_loadCells_list (P := P) w ⟨b, o, none⟩ vs (fun j v hj => by rw [Addr.add_lit]; exact hc j v hj)
    rw [hl] at this
    simp [this, valV]

theorem run_storeVar_cells {P : Program} {t : TypeId} {ti : TI} {i : TypeInfo} {z : Value} {d : TypeDesc} (h : TF P t ti i z d) (w : World) (b o : Nat) (v : Value) (cur : Array Value) (tb : TypeId) (hl : v.cells.size = ti.size)
    (hg : w.heap[b]? = some (.cells cur tb (0, 0))) (hf : o + v.cells.size ≤ cur.size) (h1 : ∀ u, u ∈ v.cells.toList → u.oneCell' = true) :
    (storeVar t ⟨b, o, none⟩ v).run P w = .ok () (w.setRow b (cur.toList.take o ++ v.cells.toList ++ cur.toList.drop (o + v.cells.size)).toArray) := by
  unfold storeVar
  simp only [Sem.run_bind, h.run_size w, Result.andThen_ok, hl, ne_eq, not_true_eq_false, if_false]
  have := run_storeCells_at P b o tb v.cells.toList 0 cur w hg (by simpa using hf) h1
  simpa [hl] using this

/-! ### alloc, box -/
theorem sem_alloc {P : Program} {o : Oper} {ρ : Operand → AV} {t : TypeId} {ti : TI} {i : TypeInfo} {z : Value} {d : TypeDesc} {H : Nat → Option Blk} {F : Nat → Prop} {m : Nat} (ho : o.op = .alloc t) (h : TF P t ti i z d) (hm : F m) :
    OpSem P o ρ H F (single m (.box t ti.zero)) (.ptr m 0 0) := by
  refine OpSem.of_run fun a E h1 h2 h3 h4 => ⟨.pointer (some ⟨E.w.heap.size, 0, none⟩), E.new m ⟨E.w.heap.size, 1, ti.size⟩ (E.w.alloc (.cells z.cells t)), .inl ?_, ?_⟩
  · have := h.run_zero E.w
    simp only [execOp, ho, Sem.run_bind, Instr.alloc, this, Result.andThen_ok]
    simp [newVar, newRow, newObj, Sem.run, Env.new]
  · refine post_new h4 hm (h3 m hm) rfl rfl rfl rfl rfl ⟨rfl, h.zeroLen.symm, z.cells, ?_, h.zeroRep _⟩ ?_
    · exact heap_alloc_new E.w _
    · exact ⟨_, by simp [Env.new]; rfl, by simp⟩

theorem sem_box {P : Program} {o : Oper} {ρ : Operand → AV} {t : TypeId} {x : Operand} {cs : List AV} {H : Nat → Option Blk} {F : Nat → Prop} {m : Nat} (ho : o.op = .box t x) (hc : cellsA (ρ x) = some cs) (hm : F m) :
    OpSem P o ρ H F (single m (.box t cs)) (.ptr m 0 0) := by
  refine OpSem.of_run fun a E h1 h2 h3 h4 => ⟨.pointer (some ⟨E.w.heap.size, 0, none⟩), E.new m ⟨E.w.heap.size, 1, cs.length⟩ (E.w.alloc (.cells (a.eval x).cells t)), .inl ?_, ?_⟩
  · simp only [execOp, ho, Instr.box]
    simp [newVar, newRow, newObj, Sem.run, Env.new]
  · have hx := rep_cells hc (h1 x (by simp [ho, Op.operands]))
    refine post_new h4 hm (h3 m hm) rfl rfl rfl rfl rfl ⟨rfl, rfl, (a.eval x).cells, heap_alloc_new E.w _, ?_⟩ ⟨_, by simp [Env.new]; rfl, by simp⟩
    exact hx.imp fun _ _ k => k.ext (Env.new_ext (h3 m hm) fun b hb => heap_alloc_old E.w _ b (h4 b hb))

end Go.Proofs.Am
