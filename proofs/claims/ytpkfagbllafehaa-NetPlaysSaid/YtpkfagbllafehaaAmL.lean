/- The operations, as a formula over values. -/
import Derived.Test.YtpkfagbllafehaaAmK
namespace Go.Proofs.Am
open Go Go.RowKit
set_option linter.unusedVariables false
set_option linter.unusedSimpArgs false

def nth {α : Type} : List α → Nat → Option α
  | [], _ => none
  | x :: _, 0 => some x
  | _ :: l, n + 1 => nth l n
theorem nth_eq {α : Type} : ∀ (l : List α) (n : Nat), nth l n = l[n]?
  | [], _ => by simp [nth]
  | x :: l, 0 => by simp [nth]
  | x :: l, n + 1 => by simp [nth, nth_eq l n]
def forceL {α : Type} : List α → (List α → Prop) → Prop
  | [], K => K []
  | x :: l, K => forceL l fun m => K (x :: m)
theorem forceL_eq {α : Type} : ∀ (l : List α) (K : List α → Prop), forceL l K → K l
  | [], K, h => h
  | x :: l, K, h => forceL_eq l (fun m => K (x :: m)) h

def domF (touch : List Nat) (put : List (Nat × Option Blk)) (id : Nat) : Bool := touch.any (fun k => Nat.beq k id) || (look put id).isSome
def putF (put : List (Nat × Option Blk)) (h : Nat → Option Blk) : Nat → Option Blk := fun id => match look put id with
  | some b => b
  | none => h id
def ids (m id : Nat) : Prop := m ≤ id ∧ id < m + 16

abbrev KA := AV → List Nat → List (Nat × Option Blk) → Prop

def loadK (ti : TI) (cells : List AV) (off : Nat) (touch : List Nat) (K : KA) : Prop :=
  cond (Nat.ble (off + ti.size) cells.length) (forceL ((cells.drop off).take ti.size) fun cs => match valA ti.agg cs with
    | some y => K y touch []
    | none => False) False
/-- What is appended, told on. -/
def srcK (h : Nat → Option Blk) (x : AV) (sz : Nat) (K : List (List AV) → Prop) : Prop := match x with
  | .nil => K []
  | .emp => K []
  | .p (.seq s rows) => cond (Nat.beq s sz) (K (up rows)) False
  | .sl id off len => match h id with
    | some (.arr _ s rows) => cond (Nat.beq s sz) (off + len ≤ rows.length ∧ K ((rows.drop off).take len)) False
    | _ => False
  | _ => False
theorem srcK_of {h : Nat → Option Blk} {x : AV} {sz : Nat} {K : List (List AV) → Prop} (hk : srcK h x sz K) : ∃ rows, srcA h x sz = some rows ∧ K rows := by
  cases x <;> simp only [srcK] at hk <;> try (exact hk.elim)
  case nil => exact ⟨_, rfl, hk⟩
  case emp => exact ⟨_, rfl, hk⟩
  case p p =>
    cases p with
    | sc => exact hk.elim
    | seq s rows =>
      simp only at hk
      cases hb : Nat.beq s sz
      · rw [hb] at hk; exact hk.elim
      · rw [hb] at hk; exact ⟨_, by simp only [srcA, hb, cond_true], hk⟩
  case sl id off len =>
    cases hH : h id with
    | none => rw [hH] at hk; exact hk.elim
    | some b =>
      rw [hH] at hk
      cases b with
      | box => exact hk.elim
      | arr t s rows =>
        simp only at hk
        cases hb : Nat.beq s sz
        · rw [hb] at hk; exact hk.elim
        · rw [hb] at hk
          simp only [cond_true] at hk
          exact ⟨_, by simp only [srcA, hH, hb, Nat.ble_eq_true_of_le hk.1, Bool.and_self, cond_true], hk.2⟩
def srcT : AV → List Nat
  | .sl id _ _ => [id]
  | _ => []
def intK (op : BinOp) (c : Prop) (X : Prop) : Prop :=
  match op with
  | .quo => c ∧ X
  | .rem => c ∧ X
  | .shl => c ∧ X
  | .shr => c ∧ X
  | _ => X
def strK (op : BinOp) (c : Prop) (X : Prop) : Prop :=
  match op with
  | .add => c ∧ X
  | _ => X
def nilK (tab : List (Nat × TI)) (op : BinOp) (t : Nat) (x y : AV) (K : KA) : Prop :=
  match nilA x y with
  | some (c, b) => match look tab t with
    | some ti => match ti.ty with
      | .slice _ => match isEq op with
        | some q => c ∧ K (.p (.sc (.bool (cond q b (!b))))) [] []
        | none => False
      | _ => False
    | none => False
  | none => False
def binK (tab : List (Nat × TI)) (op : BinOp) (t : Nat) (x y : AV) (K : KA) : Prop :=
  match x with
  | .p (.sc (.int k a)) => match y with
    | .p (.sc (.int j b)) => match intA op k j a b with
      | some (c, v) => intK op c (K (.p v) [] [])
      | none => False
    | _ => False
  | .p (.sc (.bool a)) => match y with
    | .p (.sc (.bool b)) => match look tab t with
      | some ti => match ti.ty with
        | .bool => match boolA op a b with
          | some v => K (.p v) [] []
          | none => False
        | _ => False
      | none => False
    | _ => False
  | .p (.sc (.string a)) => match y with
    | .p (.sc (.string b)) => match strA op a b with
      | some (c, v) => strK op c (K (.p v) [] [])
      | none => False
    | _ => False
  | .agg xs => match y with
    | .agg ys => match look tab t with
      | some ti => cond (ti.eqok && ti.agg) (match eqC tab 20 t xs ys with
        | some b => match isEq op with
          | some q => K (.p (.sc (.bool (cond q b (!b))))) [] []
          | none => False
        | none => False) False
      | none => False
    | _ => False
  | .p (.seq sz rows) => nilK tab op t (.p (.seq sz rows)) y K
  | .nil => nilK tab op t .nil y K
  | .emp => nilK tab op t .emp y K
  | _ => False

def opA (P : Program) (tab : List (Nat × TI)) (o : Oper) (ρ : Operand → AV) (h : Nat → Option Blk) (m : Nat) (K : KA) : Prop :=
  match o.op with
  | .move x => K (ρ x) [] []
  | .assign x => K (ρ x) [] []
  | .pick c x y => match ρ c with
    | .p (.sc (.bool b)) => cond b (K (ρ x) [] []) (K (ρ y) [] [])
    | _ => False
  | .nilCheck x => cond (notNil (ρ x)) (K (ρ x) [] []) False
  | .alloc t => match look tab t with
    | some ti => K (.ptr m 0 0) [] [(m, some (.box t ti.zero))]
    | none => False
  | .box t x => match cellsA (ρ x) with
    | some cs => forceL cs fun cs => K (.ptr m 0 0) [] [(m, some (.box t cs))]
    | none => False
  | .build t parts => match buildA tab t (parts.toList.map fun p => (p.1, ρ p.2)) with
    | some cs => forceL cs fun cs => K (.agg cs) [] []
    | none => False
  | .buildSlice t len parts => match look tab t with
    | none => False
    | some ti => match ti.ty with
      | .slice e => match look tab e with
        | none => False
        | some te => cond (Nat.blt 0 te.size && Nat.ble (len * te.size) 16777216) (match fillA (fun i => some (i * te.size, te.size)) (repL te.zero len) (parts.toList.map fun p => (p.1, ρ p.2)) with
          | none => False
          | some flat => forceL flat fun flat => forceL (rowsOf te.size len flat) fun rows => K (.sl m 0 len) [] [(m, some (.arr e te.size rows))]) False
      | _ => False
  | .load t x => match look tab t with
    | none => False
    | some ti => match ρ x with
      | .ptr id row off => match h id with
        | some (.box _ cells) => cond (Nat.beq row 0) (loadK ti cells off [id] K) False
        | some (.arr _ _ rows) => ∃ rr, rows[row]? = some rr ∧ loadK ti rr off [id] K
        | none => False
      | .fptr _ rows row off => ∃ rr, rows[row]? = some rr ∧ loadK ti (rr.map .p) off [] K
      | _ => False
  | .store t x v => match look tab t with
    | none => False
    | some ti => match ρ x with
      | .ptr id row off => match cellsA (ρ v) with
        | none => False
        | some cs => match h id with
          | some (.box tb cells) => cond (Nat.beq row 0 && Nat.beq cs.length ti.size && Nat.ble (off + cs.length) cells.length) (forceL (setAll cells off cs) fun cells => K .und [id] [(id, some (.box tb cells))]) False
          | some (.arr tb sz rows) => ∃ rr, rows[row]? = some rr ∧ cond (Nat.beq cs.length ti.size && Nat.ble (off + cs.length) rr.length) (forceL (setAll rr off cs) fun rr => K .und [id] [(id, some (.arr tb sz (rows.set row rr)))]) False
          | none => False
      | _ => False
  | .fieldAddr s x f => match look tab s with
    | none => False
    | some ti => match ti.ty with
      | .struct fs => match nth fs f with
        | none => False
        | some (off, ft) => match look tab ft with
          | none => False
          | some tf => cond (Nat.blt 0 tf.size) (match ptrAdd (ρ x) off with
            | some y => K y [] []
            | none => False) False
      | _ => False
  | .field s x f => match look tab s with
    | none => False
    | some ti => match ti.ty with
      | .struct fs => match nth fs f with
        | none => False
        | some (off, ft) => match look tab ft with
          | none => False
          | some tf => match ρ x with
            | .agg cs => loadK tf cs off [] K
            | _ => False
      | _ => False
  | .indexAddr t x y => match look tab t with
    | none => False
    | some ti => match ρ y with
      | .p (.sc (.int _ n)) => match ti.ty with
        | .slice e => match look tab e with
          | none => False
          | some te => match ρ x with
            | .p (.seq sz rows) => cond (Nat.beq sz te.size) ((0 ≤ n ∧ n < rows.length) ∧ K (.fptr sz rows n.toNat 0) [] []) False
            | .sl id off len => match h id with
              | some (.arr _ sz _) => cond (Nat.beq sz te.size) ((0 ≤ n ∧ n < len) ∧ K (.ptr id (off + n.toNat) 0) [id] []) False
              | _ => False
            | _ => False
        | .array len e => match look tab e with
          | none => False
          | some te => (0 ≤ n ∧ n < len) ∧ (match ptrAdd (ρ x) (n.toNat * te.size) with
            | some q => K q [] []
            | none => False)
        | _ => False
      | _ => False
  | .index t x y => match look tab t with
    | none => False
    | some ti => match ti.ty with
      | .string => match ρ x with
        | .p (.sc (.string s)) => match ρ y with
          | .p (.sc (.int _ n)) => 0 ≤ n ∧ ∃ b, s[n.toNat]? = some b ∧ K (.p (.sc (.int .u8 b.toNat))) [] []
          | _ => False
        | _ => False
      | _ => False
  | .extract x j => match ρ x with
    | .tup ts => match nth ts j with
      | some y => cond (noTup y) (K y [] []) False
      | none => False
    | _ => False
  | .binOp op t x y _ => binK tab op t (ρ x) (ρ y) K
  | .unOp op _ x => match ρ x with
    | .p p => match unA op p with
      | some v => K (.p v) [] []
      | none => False
    | _ => False
  | .convert s t x => match look tab s with
    | none => False
    | some _ => match look tab t with
      | none => False
      | some ti => match ti.ty with
        | .int k => match ρ x with
          | .p (.sc (.int _ n)) => K (.p (.sc (.int k (k.wrap n)))) [] []
          | _ => False
        | _ => False
  | .makeFunc (.func f) first caps => match first.toList with
    | [] => match capsA (caps.toList.map ρ) with
      | some r => forceL r fun r => K (.fn f r) [] []
      | none => False
    | _ => False
  | .makeSlice t x y => match look tab t with
    | none => False
    | some ti => match ti.ty with
      | .slice e => match look tab e with
        | none => False
        | some te => cond (Nat.blt 0 te.size && Nat.blt 0 te.bytes) (match ρ x with
          | .p (.sc (.int _ n)) => match ρ y with
            | .p (.sc (.int _ n')) => n' = n ∧ (0 ≤ n ∧ n * te.bytes ≤ 140737488355328) ∧ K (.sl m 0 n.toNat) [] [(m, some (.arr e te.size (List.replicate n.toNat te.zero)))]
            | _ => False
          | _ => False) False
      | _ => False
  | .slice t x lo hi mx => match look tab t with
    | none => False
    | some ti => match ti.ty with
      | .slice e => match look tab e with
        | none => False
        | some te => match mx with
          | none => match ρ x with
            | .p (.seq sz rows) => cond (Nat.beq sz te.size) (match bndA ρ lo 0 with
              | some (c1, l) => match bndA ρ hi rows.length with
                | some (c2, h) => (c1 ∧ c2 ∧ l ≤ h ∧ h ≤ rows.length) ∧ K (.p (.seq sz ((rows.drop l).take (h - l)))) [] []
                | none => False
              | none => False) False
            | .sl id off len => match h id with
              | some (.arr _ sz rows) => cond (Nat.beq sz te.size) (match bndA ρ lo 0 with
                | some (c1, l) => match bndA ρ hi len with
                  | some (c2, h) => (c1 ∧ c2 ∧ l ≤ h ∧ (h ≤ len ∨ off + h ≤ rows.length)) ∧ K (.sl id (off + l) (h - l)) [id] []
                  | none => False
                | none => False) False
              | _ => False
            | _ => False
          | some v => match hi with
            | none => False
            | some y => match ρ y with
              | .p (.sc (.int _ h)) => match ρ v with
                | .p (.sc (.int _ mm)) => match lenA (ρ x) with
                  | some n => match bndA ρ lo 0 with
                    | some (c1, l) => (c1 ∧ (match ρ x with | .sl _ _ _ => True | .p (.seq _ _) => True | _ => False) ∧ 0 ≤ h ∧ l ≤ h ∧ h ≤ mm ∧ mm ≤ n) ∧ K .any [] []
                    | none => False
                  | none => False
                | _ => False
              | _ => False
      | .string => match mx with
        | some _ => False
        | none => match ρ x with
          | .p (.sc (.string s)) => match bndA ρ lo 0 with
            | some (c1, l) => match bndA ρ hi s.size with
              | some (c2, h) => (c1 ∧ c2 ∧ l ≤ h ∧ h ≤ s.size) ∧ K (.p (.sc (.string (s.extract l h)))) [] []
              | none => False
            | none => False
          | _ => False
      | _ => False
  | .call { callee := .builtin .len, args := args, argTypes := ats } => match args.toList with
    | [x] => match ats.toList with
      | [t] => match look tab t with
        | none => False
        | some ti => match ti.ty with
          | .slice _ => match lenA (ρ x) with
            | some n => K (.p (.sc (.int .i64 n))) [] []
            | none => False
          | .string => match ρ x with
            | .p (.sc (.string s)) => K (.p (.sc (.int .i64 s.size))) [] []
            | _ => False
          | .array n _ => K (.p (.sc (.int .i64 n))) [] []
          | _ => False
      | _ => False
    | _ => False
  | .call { callee := .builtin .min, args := args, argTypes := ats } => match args.toList with
    | [x, y] => match ats.toList with
      | [_, _] => match ρ x with
        | .p (.sc (.int k a)) => match ρ y with
          | .p (.sc (.int _ b)) => K (.p (.sc (.int k (if b < a then b else a)))) [] []
          | _ => False
        | _ => False
      | _ => False
    | _ => False
  | .call { callee := .builtin .max, args := args, argTypes := ats } => match args.toList with
    | [x, y] => match ats.toList with
      | [_, _] => match ρ x with
        | .p (.sc (.int k a)) => match ρ y with
          | .p (.sc (.int _ b)) => K (.p (.sc (.int k (if b > a then b else a)))) [] []
          | _ => False
        | _ => False
      | _ => False
    | _ => False
  | .call { callee := .builtin .clear, args := args, argTypes := ats } => match args.toList with
    | [x] => match ats.toList with
      | [t] => match look tab t with
        | none => False
        | some ti => match ti.ty with
          | .slice e => match look tab e with
            | none => False
            | some te => match ρ x with
              | .sl id off len => match h id with
                | some (.arr tb sz rows) => cond (Nat.beq tb e && Nat.beq sz te.size && Nat.blt 0 te.size) ((0 < rows.length ∧ off + len ≤ rows.length) ∧ K .any [id] [(id, some (.arr e sz (rows.take off ++ List.replicate len te.zero ++ rows.drop (off + len))))]) False
                | _ => False
              | _ => False
          | _ => False
      | _ => False
    | _ => False
  | .call { callee := .builtin .append, args := args, argTypes := ats } => match args.toList with
    | [s, x] => match ats.toList with
      | [t, u] => match look tab t with
        | none => False
        | some ti => match ti.ty with
          | .slice e => match look tab e with
            | none => False
            | some te => cond (Nat.beq t u && Nat.blt 0 te.size && Nat.blt 0 te.bytes) (srcK h (ρ x) te.size fun rows2 => match ρ s with
                | .nil => rows2.length * te.bytes ≤ 140737488355328 ∧ K (.sl m 0 rows2.length) (srcT (ρ x)) [(m, some (.arr e te.size rows2))]
                | .sl id off n => match h id with
                  | some (.arr tb sz rows) => cond (Nat.beq off 0 && Nat.beq tb e && Nat.beq sz te.size)
                      (((rows.length = n ∧ (n + rows2.length) * te.bytes ≤ 140737488355328) ∧ K (.sl m 0 (n + rows2.length)) (id :: srcT (ρ x)) [(m, some (.arr e sz (rows ++ rows2))), (id, none)]) ∨
                       ((n + rows2.length ≤ rows.length ∧ 0 < rows.length) ∧ K (.sl id 0 (n + rows2.length)) (id :: srcT (ρ x)) [(id, some (.arr e sz (rows.take n ++ rows2 ++ rows.drop (n + rows2.length))))])) False
                  | _ => False
                | _ => False) False
          | _ => False
      | _ => False
    | _ => False
  | .call { callee := .value fo, args := args, argTypes := _ } => match ρ fo with
    | .fn f caps => cond (args.toList.all fun u => noTup (ρ u)) (∃ x touch put, CallSem P f (args.toList.map ρ ++ capArgs caps) (cut (domF touch put) h) (ids m) (cut (domF touch put) (putF put h)) x ∧ K x touch put) False
    | _ => False
  | _ => False

theorem OpSem.sub {P : Program} {o : Oper} {ρ : Operand → AV} {H : Nat → Option Blk} {F : Nat → Prop} {H' H'' : Nat → Option Blk} {x : AV} (s : OpSem P o ρ H F H' x) (h : ∀ id k, H'' id = some k → H' id = some k) : OpSem P o ρ H F H'' x :=
  fun Q K a E h1 h2 h3 h4 k => s Q K a E h1 h2 h3 h4 fun v E' p => k v E' (p.sub h)

def OpOut (P : Program) (o : Oper) (ρ : Operand → AV) (h : Nat → Option Blk) (m : Nat) (K : KA) : Prop :=
  ∃ x touch put, OpSem P o ρ (cut (domF touch put) h) (ids m) (cut (domF touch put) (putF put h)) x ∧ K x touch put

section
variable {P : Program} {o : Oper} {ρ : Operand → AV} {h : Nat → Option Blk} {m : Nat} {K : KA}
theorem OpOut.still {x : AV} (touch : List Nat) (s : ∀ H, (∀ id, id ∈ touch → H id = h id) → OpSem P o ρ H (ids m) H x) (k : K x touch []) : OpOut P o ρ h m K :=
  ⟨x, touch, [], s _ (fun id hid => by
    have : domF touch [] id = true := by
      simp only [domF, Bool.or_eq_true]; exact .inl (List.any_eq_true.2 ⟨id, hid, Nat.beq_refl id⟩)
    simp [cut, this]), k⟩
theorem OpOut.new {x : AV} {b : Blk} (s : ∀ H, OpSem P o ρ H (ids m) (single m b) x) (k : K x [] [(m, some b)]) : OpOut P o ρ h m K :=
  ⟨x, [], [(m, some b)], (s _).sub fun id q hq => by
    obtain ⟨h1, h2⟩ := cut_some hq
    simp only [domF, List.any_nil, Bool.false_or, look] at h1
    simp only [putF, look] at h2
    cases hb : Nat.beq m id
    · rw [hb] at h1; simp at h1
    · rw [hb] at h2
      have := Nat.eq_of_beq_eq_true hb
      subst this
      simpa [single] using h2, k⟩
theorem OpOut.gen {x : AV} (touch : List Nat) (put : List (Nat × Option Blk)) {H' : (Nat → Option Blk) → Nat → Option Blk} (s : ∀ H, (∀ id, id ∈ touch → H id = h id) → OpSem P o ρ H (ids m) (H' H) x)
    (hH : ∀ H, (∀ id, domF touch put id = true → H id = h id) → ∀ id k, domF touch put id = true → putF put h id = some k → H' H id = some k) (k : K x touch put) : OpOut P o ρ h m K := by
  have hc : ∀ id, domF touch put id = true → cut (domF touch put) h id = h id := fun id hid => by simp [cut, hid]
  exact ⟨x, touch, put, (s _ (fun j hj => hc j (by simp only [domF, Bool.or_eq_true]; exact .inl (List.any_eq_true.2 ⟨j, hj, Nat.beq_refl j⟩)))).sub fun j q hq => by
    obtain ⟨h1, h2⟩ := cut_some hq
    exact hH _ hc j q h1 h2, k⟩
theorem putF_one {id : Nat} {b : Option Blk} {h : Nat → Option Blk} {j : Nat} : putF [(id, b)] h j = if j = id then b else h j := by
  simp only [putF, look]
  by_cases hj : j = id
  · subst hj; simp [Nat.beq_refl]
  · have : Nat.beq id j = false := by cases hq : Nat.beq id j; rfl; exact absurd (Nat.eq_of_beq_eq_true hq).symm hj
    simp [this, hj]
theorem putF_two {m id : Nat} {b c : Option Blk} {h : Nat → Option Blk} {j : Nat} : putF [(m, b), (id, c)] h j = if j = m then b else if j = id then c else h j := by
  simp only [putF, look]
  by_cases hj : j = m
  · subst hj; simp [Nat.beq_refl]
  · have h1 : Nat.beq m j = false := by cases hq : Nat.beq m j; rfl; exact absurd (Nat.eq_of_beq_eq_true hq).symm hj
    by_cases hj2 : j = id
    · subst hj2; simp [h1, hj, Nat.beq_refl]
    · have h2 : Nat.beq id j = false := by cases hq : Nat.beq id j; rfl; exact absurd (Nat.eq_of_beq_eq_true hq).symm hj2
      simp [h1, h2, hj, hj2]
/-- One own variable is written, no other one is looked at. -/
theorem OpOut.store1 {x : AV} {b : Blk} {id : Nat} (s : ∀ H, H id = h id → OpSem P o ρ H (ids m) (single id b) x) (k : K x [id] [(id, some b)]) : OpOut P o ρ h m K :=
  OpOut.gen [id] [(id, some b)] (H' := fun _ => single id b) (fun H hH => s H (hH id (by simp))) (fun H _ j q hd hp => by
    by_cases hj : j = id
    · subst hj; rw [putF_one] at hp; simpa [single] using hp
    · exfalso
      have : Nat.beq id j = false := by cases hq : Nat.beq id j; rfl; exact absurd (Nat.eq_of_beq_eq_true hq).symm hj
      simp [domF, look, this] at hd) k
theorem loadK_of {ti : TI} {cells : List AV} {off : Nat} {touch : List Nat} (hk : loadK ti cells off touch K) : off + ti.size ≤ cells.length ∧ ∃ y, valA ti.agg ((cells.drop off).take ti.size) = some y ∧ K y touch [] := by
  unfold loadK at hk
  cases hb : Nat.ble (off + ti.size) cells.length
  · rw [hb] at hk; exact hk.elim
  · rw [hb] at hk
    have := forceL_eq _ _ hk
    refine ⟨Nat.le_of_ble_eq_true hb, ?_⟩
    cases hv : valA ti.agg ((cells.drop off).take ti.size) with
    | none => simp only [hv] at this
    | some y => simp only [hv] at this; exact ⟨y, rfl, this⟩
theorem srcA_congr {h H : Nat → Option Blk} {x : AV} {sz : Nat} (hh : ∀ id, id ∈ srcT x → H id = h id) : srcA H x sz = srcA h x sz := by
  cases x with
  | sl id off len => simp only [srcA]; rw [hh id (by simp [srcT])]
  | p p => cases p <;> rfl
  | _ => rfl
end
end Go.Proofs.Am
