/- The formula is right. -/
import Derived.Test.YtpkfagbllafehaaAmL
namespace Go.Proofs.Am
open Go Go.RowKit
set_option linter.unusedVariables false
set_option linter.unusedSimpArgs false

theorem cond_true_of {b : Bool} {X : Prop} (h : cond b X False) : b = true ∧ X := by cases b; exact h.elim; exact ⟨rfl, h⟩
theorem intA_cond {op : BinOp} {k j : IntKind} {a b : Int} {c : Prop} {v : PV} {X : Prop} (h : intA op k j a b = some (c, v)) (hk : intK op c X) : c ∧ X := by
  cases op <;> simp only [intK] at hk <;> first | exact hk | skip
  all_goals
    simp only [intA] at h
    split at h
    · simp only [Option.some.injEq, Prod.mk.injEq] at h
      obtain ⟨rfl, _⟩ := h
      exact ⟨trivial, hk⟩
    · cases h
theorem strA_cond {op : BinOp} {a b : ByteArray} {c : Prop} {v : PV} {X : Prop} (h : strA op a b = some (c, v)) (hk : strK op c X) : c ∧ X := by
  cases op <;> simp only [strK] at hk <;> first | exact hk | skip
  all_goals
    simp only [strA] at h
    first
      | (simp only [Option.some.injEq, Prod.mk.injEq] at h; obtain ⟨rfl, _⟩ := h; exact ⟨trivial, hk⟩)
      | cases h

section
variable {P : Program} {tab : List (Nat × TI)} {o : Oper} {ρ : Operand → AV} {h : Nat → Option Blk} {m : Nat} {K : KA}

theorem hm0 : ids m m := ⟨Nat.le_refl _, by omega⟩

theorem out_load {ti : TI} {t : Nat} {x : Operand} (hT : TabOk P tab) (h1 : oneB tab = true) (hl : look tab t = some ti) (ho : o.op = .load t x)
    (hk : match ρ x with
      | .ptr id row off => match h id with
        | some (.box _ cells) => cond (Nat.beq row 0) (loadK ti cells off [id] K) False
        | some (.arr _ _ rows) => ∃ rr, rows[row]? = some rr ∧ loadK ti rr off [id] K
        | none => False
      | .fptr _ rows row off => ∃ rr, rows[row]? = some rr ∧ loadK ti (rr.map .p) off [] K
      | _ => False) : OpOut P o ρ h m K := by
  obtain ⟨i, z, d, tf⟩ := hT.get hl
  have hag := oneB_get h1 hl
  cases hx : ρ x <;> rw [hx] at hk <;> simp only at hk
  case ptr id row off =>
    cases hH : h id with
    | none => rw [hH] at hk; exact hk.elim
    | some k =>
      rw [hH] at hk
      cases k with
      | box tb cells =>
        obtain ⟨hr, hk⟩ := cond_true_of hk
        have := Nat.eq_of_beq_eq_true hr; subst this
        obtain ⟨q1, y, q2, q3⟩ := loadK_of hk
        exact OpOut.still [id] (fun H hH' => sem_load_box ho tf hx (by rw [hH' id (by simp)]; exact hH) q1 hag q2) q3
      | arr tb sz rows =>
        obtain ⟨rr, hrr, hk⟩ := hk
        obtain ⟨q1, y, q2, q3⟩ := loadK_of hk
        exact OpOut.still [id] (fun H hH' => sem_load_arr ho tf hx (by rw [hH' id (by simp)]; exact hH) hrr q1 hag q2) q3
  case fptr sz rows row off =>
    obtain ⟨rr, hrr, hk⟩ := hk
    obtain ⟨q1, y, q2, q3⟩ := loadK_of hk
    refine OpOut.still [] (fun H _ => sem_load_f ho tf hx hrr (by simpa using q1) hag ?_) q3
    rw [← q2, List.map_take, List.map_drop]

theorem out_store {ti : TI} {t : Nat} {x v : Operand} (hT : TabOk P tab) (hl : look tab t = some ti) (ho : o.op = .store t x v)
    (hk : match ρ x with
      | .ptr id row off => match cellsA (ρ v) with
        | none => False
        | some cs => match h id with
          | some (.box tb cells) => cond (Nat.beq row 0 && Nat.beq cs.length ti.size && Nat.ble (off + cs.length) cells.length) (forceL (setAll cells off cs) fun cells => K .und [id] [(id, some (.box tb cells))]) False
          | some (.arr tb sz rows) => ∃ rr, rows[row]? = some rr ∧ cond (Nat.beq cs.length ti.size && Nat.ble (off + cs.length) rr.length) (forceL (setAll rr off cs) fun rr => K .und [id] [(id, some (.arr tb sz (rows.set row rr)))]) False
          | none => False
      | _ => False) : OpOut P o ρ h m K := by
  obtain ⟨i, z, d, tf⟩ := hT.get hl
  cases hx : ρ x <;> rw [hx] at hk <;> simp only at hk
  case ptr id row off =>
    cases hc : cellsA (ρ v) with
    | none => rw [hc] at hk; exact hk.elim
    | some cs =>
      rw [hc] at hk
      simp only at hk
      cases hH : h id with
      | none => rw [hH] at hk; exact hk.elim
      | some k =>
        rw [hH] at hk
        cases k with
        | box tb cells =>
          simp only at hk
          obtain ⟨hr, hk2⟩ := cond_true_of hk
          rw [Bool.and_eq_true, Bool.and_eq_true] at hr
          have := Nat.eq_of_beq_eq_true hr.1.1; subst this
          exact OpOut.store1 (fun H hH' => sem_store_box ho tf hx (hH'.trans hH) hc (Nat.eq_of_beq_eq_true hr.1.2) (Nat.le_of_ble_eq_true hr.2)) (forceL_eq _ (fun cells => K .und [id] [(id, some (.box tb cells))]) hk2)
        | arr tb sz rows =>
          obtain ⟨rr, hrr, hk⟩ := hk
          obtain ⟨hr, hk⟩ := cond_true_of hk
          rw [Bool.and_eq_true] at hr
          exact OpOut.store1 (fun H hH' => sem_store_arr ho tf hx (hH'.trans hH) hrr hc (Nat.eq_of_beq_eq_true hr.1) (Nat.le_of_ble_eq_true hr.2)) (forceL_eq _ (fun rr => K .und [id] [(id, some (.arr tb sz (rows.set row rr)))]) hk)

theorem out_nil {t u : Nat} {op : BinOp} {x y : Operand} (hT : TabOk P tab) (ho : o.op = .binOp op t x y u) (hk : nilK tab op t (ρ x) (ρ y) K) : OpOut P o ρ h m K := by
  unfold nilK at hk
  cases hn : nilA (ρ x) (ρ y) with
  | none => simp only [hn] at hk
  | some cb =>
    obtain ⟨c, b⟩ := cb
    simp only [hn] at hk
    cases hl : look tab t with
    | none => simp only [hl] at hk
    | some ti =>
      simp only [hl] at hk
      obtain ⟨i, z, d, tf⟩ := hT.get hl
      cases ht : ti.ty <;> simp only [ht] at hk
      cases hop : isEq op with
      | none => simp only [hop] at hk
      | some q =>
        simp only [hop] at hk
        obtain ⟨hc, hk⟩ := hk
        exact OpOut.still [] (fun H _ => sem_nileq tf ht ho hop hn hc) hk

theorem out_binOp {t u : Nat} {op : BinOp} {x y : Operand} (hT : TabOk P tab) (h1 : oneB tab = true) (ho : o.op = .binOp op t x y u)
    (hk : binK tab op t (ρ x) (ρ y) K) : OpOut P o ρ h m K := by
  cases hx : ρ x <;> rw [hx] at hk <;> simp only [binK] at hk
  case nil => exact out_nil hT ho (by rw [hx]; exact hk)
  case emp => exact out_nil hT ho (by rw [hx]; exact hk)
  case p p =>
    cases p with
    | seq sz rows => exact out_nil hT ho (by rw [hx]; exact hk)
    | sc cv =>
      cases cv <;> first | exact hk.elim | skip
      case bool a =>
        cases hy : ρ y <;> simp only [hy] at hk
        rename_i q
        cases q <;> first | exact hk.elim | skip
        rename_i cv
        cases cv <;> first | exact hk.elim | skip
        rename_i b
        cases hl : look tab t with
        | none => simp only [hl] at hk
        | some ti =>
          simp only [hl] at hk
          obtain ⟨i, z, d, tf⟩ := hT.get hl
          cases ht : ti.ty <;> simp only [ht] at hk
          cases hb : boolA op a b with
          | none => simp only [hb] at hk
          | some v =>
            simp only [hb] at hk
            exact OpOut.still [] (fun H _ => sem_boolbin tf ht ho hx hy hb) hk
      case int k a =>
        cases hy : ρ y <;> simp only [hy] at hk
        rename_i q
        cases q <;> first | exact hk.elim | skip
        rename_i cv
        cases cv <;> first | exact hk.elim | skip
        rename_i j b
        cases hi : intA op k j a b with
        | none => simp only [hi] at hk
        | some cv =>
          obtain ⟨c, v⟩ := cv
          simp only [hi] at hk
          obtain ⟨hc, hk⟩ := intA_cond hi hk
          exact OpOut.still [] (fun H _ => sem_intbin ho hx hy hi hc) hk
      case string a =>
        cases hy : ρ y <;> simp only [hy] at hk
        rename_i q
        cases q <;> first | exact hk.elim | skip
        rename_i cv
        cases cv <;> first | exact hk.elim | skip
        rename_i b
        cases hi : strA op a b with
        | none => simp only [hi] at hk
        | some cv =>
          obtain ⟨c, v⟩ := cv
          simp only [hi] at hk
          obtain ⟨hc, hk⟩ := strA_cond hi hk
          exact OpOut.still [] (fun H _ => sem_strbin ho hx hy hi hc) hk
  case agg xs =>
    cases hy : ρ y <;> simp only [hy] at hk
    rename_i ys
    cases hl : look tab t with
    | none => simp only [hl] at hk
    | some ti =>
      simp only [hl] at hk
      obtain ⟨hb, hk⟩ := cond_true_of hk
      rw [Bool.and_eq_true] at hb
      cases he : eqC tab 20 t xs ys with
      | none => simp only [he] at hk
      | some b =>
        simp only [he] at hk
        cases hop : isEq op with
        | none => simp only [hop] at hk
        | some q =>
          simp only [hop] at hk
          exact OpOut.still [] (fun H _ => sem_structeq hT h1 ho hop hl hb.1 hb.2 hx hy he) hk
end
end Go.Proofs.Am
