/- The formula is right: the other operations. -/
import Derived.Test.YtpkfagbllafehaaAmM
namespace Go.Proofs.Am
open Go Go.RowKit
set_option linter.unusedVariables false
set_option linter.unusedSimpArgs false

section
variable {P : Program} {tab : List (Nat × TI)} {o : Oper} {ρ : Operand → AV} {h : Nat → Option Blk} {m : Nat} {K : KA}

theorem opA_sound (hT : TabOk P tab) (h1 : oneB tab = true) (hk : opA P tab o ρ h m K) : OpOut P o ρ h m K := by
  cases ho : o.op
  case move x => unfold opA at hk; rw [ho] at hk; exact OpOut.still [] (fun H _ => sem_move (.inl ho)) hk
  case assign x => unfold opA at hk; rw [ho] at hk; exact OpOut.still [] (fun H _ => sem_move (.inr ho)) hk
  case pick c x y =>
    unfold opA at hk; rw [ho] at hk; simp only at hk
    cases hc : ρ c <;> rw [hc] at hk <;> first | exact hk.elim | skip
    rename_i q
    cases q <;> first | exact hk.elim | skip
    rename_i cv
    cases cv <;> first | exact hk.elim | skip
    rename_i b
    refine OpOut.still [] (fun H _ => sem_pick ho hc) ?_
    cases b <;> exact hk
  case nilCheck x =>
    unfold opA at hk; rw [ho] at hk
    have hq := cond_true_of hk; clear hk; obtain ⟨hn, hk⟩ := hq
    exact OpOut.still [] (fun H _ => sem_nilCheck ho hn) hk
  case alloc t =>
    unfold opA at hk; rw [ho] at hk; simp only at hk
    try simp only at hk
    cases hl : look tab t with
    | none => rw [hl] at hk; exact hk.elim
    | some ti =>
      rw [hl] at hk
      obtain ⟨i, z, d, tf⟩ := hT.get hl
      exact OpOut.new (fun H => sem_alloc ho tf hm0) hk
  case box t x =>
    unfold opA at hk; rw [ho] at hk; simp only at hk
    try simp only at hk
    cases hc : cellsA (ρ x) with
    | none => rw [hc] at hk; exact hk.elim
    | some cs =>
      rw [hc] at hk
      exact OpOut.new (fun H => sem_box ho hc hm0) (forceL_eq _ (fun cs => K (.ptr m 0 0) [] [(m, some (.box t cs))]) hk)
  case build t parts =>
    unfold opA at hk; rw [ho] at hk; simp only at hk
    cases hc : buildA tab t (parts.toList.map fun p => (p.1, ρ p.2)) with
    | none => rw [hc] at hk; exact hk.elim
    | some cs =>
      rw [hc] at hk
      exact OpOut.still [] (fun H _ => sem_build hT ho hc) (forceL_eq _ (fun cs => K (.agg cs) [] []) hk)
  case buildSlice t len parts =>
    unfold opA at hk; rw [ho] at hk; simp only at hk
    try simp only at hk
    cases hl : look tab t with
    | none => rw [hl] at hk; exact hk.elim
    | some ti =>
      rw [hl] at hk; simp only at hk
      cases ht : ti.ty <;> rw [ht] at hk <;> simp only at hk
      rename_i e
      try simp only at hk
      cases he : look tab e with
      | none => rw [he] at hk; exact hk.elim
      | some te =>
        rw [he] at hk; simp only at hk
        have hq := cond_true_of hk; clear hk; obtain ⟨hb, hk⟩ := hq
        rw [Bool.and_eq_true] at hb
        cases hf : fillA (fun i => some (i * te.size, te.size)) (repL te.zero len) (parts.toList.map fun p => (p.1, ρ p.2)) with
        | none => rw [hf] at hk; exact hk.elim
        | some flat =>
          rw [hf] at hk
          have hk := forceL_eq _ (fun flat => forceL (rowsOf te.size len flat) fun rows => K (.sl m 0 len) [] [(m, some (.arr e te.size rows))]) hk
          have hk := forceL_eq _ (fun rows => K (.sl m 0 len) [] [(m, some (.arr e te.size rows))]) hk
          exact OpOut.new (fun H => sem_buildSlice hT ho hl ht he (by simpa [Nat.blt_eq] using hb.1) (Nat.le_of_ble_eq_true hb.2) hf hm0) hk
  case load t x =>
    unfold opA at hk; rw [ho] at hk; simp only at hk
    try simp only at hk
    cases hl : look tab t with
    | none => rw [hl] at hk; exact hk.elim
    | some ti => rw [hl] at hk; exact out_load hT h1 hl ho hk
  case store t x v =>
    unfold opA at hk; rw [ho] at hk; simp only at hk
    try simp only at hk
    cases hl : look tab t with
    | none => rw [hl] at hk; exact hk.elim
    | some ti => rw [hl] at hk; exact out_store hT hl ho hk
  case fieldAddr s x f =>
    unfold opA at hk; rw [ho] at hk; simp only at hk
    try simp only at hk
    cases hl : look tab s with
    | none => rw [hl] at hk; exact hk.elim
    | some ti =>
      rw [hl] at hk; simp only at hk
      obtain ⟨i, z, d, tf⟩ := hT.get hl
      cases ht : ti.ty <;> rw [ht] at hk <;> simp only at hk
      rename_i fs
      try simp only at hk
      cases hf : nth fs f with
      | none => rw [hf] at hk; exact hk.elim
      | some q =>
        obtain ⟨off, ft⟩ := q
        rw [hf] at hk; simp only at hk
        try simp only at hk
        cases hl2 : look tab ft with
        | none => rw [hl2] at hk; exact hk.elim
        | some t2 =>
          rw [hl2] at hk; simp only at hk
          obtain ⟨i2, z2, d2, tf2⟩ := hT.get hl2
          have hq := cond_true_of hk; clear hk; obtain ⟨hb, hk⟩ := hq
          try simp only at hk
          cases hp : ptrAdd (ρ x) off with
          | none => rw [hp] at hk; exact hk.elim
          | some y =>
            rw [hp] at hk
            rw [nth_eq] at hf
            exact OpOut.still [] (fun H _ => sem_fieldAddr tf ht hf tf2 (by simpa [Nat.blt_eq] using hb) ho hp) hk
  case field s x f =>
    unfold opA at hk; rw [ho] at hk; simp only at hk
    try simp only at hk
    cases hl : look tab s with
    | none => rw [hl] at hk; exact hk.elim
    | some ti =>
      rw [hl] at hk; simp only at hk
      obtain ⟨i, z, d, tf⟩ := hT.get hl
      cases ht : ti.ty <;> rw [ht] at hk <;> simp only at hk
      rename_i fs
      try simp only at hk
      cases hf : nth fs f with
      | none => rw [hf] at hk; exact hk.elim
      | some q =>
        obtain ⟨off, ft⟩ := q
        rw [hf] at hk; simp only at hk
        try simp only at hk
        cases hl2 : look tab ft with
        | none => rw [hl2] at hk; exact hk.elim
        | some t2 =>
          rw [hl2] at hk; simp only at hk
          obtain ⟨i2, z2, d2, tf2⟩ := hT.get hl2
          cases hx : ρ x <;> rw [hx] at hk <;> first | exact hk.elim | skip
          rw [nth_eq] at hf
          obtain ⟨q1, y, q2, q3⟩ := loadK_of hk
          exact OpOut.still [] (fun H _ => sem_field tf ht hf tf2 ho hx q1 (oneB_get h1 hl2) q2) q3
  case indexAddr t x y =>
    unfold opA at hk; rw [ho] at hk; simp only at hk
    try simp only at hk
    cases hl : look tab t with
    | none => rw [hl] at hk; exact hk.elim
    | some ti =>
      rw [hl] at hk; simp only at hk
      obtain ⟨i, z, d, tf⟩ := hT.get hl
      cases hy : ρ y <;> rw [hy] at hk <;> first | exact hk.elim | skip
      rename_i q
      cases q <;> first | exact hk.elim | skip
      rename_i cv
      cases cv <;> first | exact hk.elim | skip
      rename_i k n
      simp only at hk
      cases ht : ti.ty <;> rw [ht] at hk <;> simp only at hk
      case array len e =>
        try simp only at hk
        cases he : look tab e with
        | none => rw [he] at hk; exact hk.elim
        | some te =>
          rw [he] at hk; simp only at hk
          obtain ⟨i2, z2, d2, tfe⟩ := hT.get he
          obtain ⟨hb, hk⟩ := hk
          try simp only at hk
          cases hp : ptrAdd (ρ x) (n.toNat * te.size) with
          | none => rw [hp] at hk; exact hk.elim
          | some q => rw [hp] at hk; exact OpOut.still [] (fun H _ => sem_indexAddr_arr tf ht tfe ho hp hy hb.1 hb.2) hk
      case slice e =>
        try simp only at hk
        cases he : look tab e with
        | none => rw [he] at hk; exact hk.elim
        | some te =>
          rw [he] at hk; simp only at hk
          obtain ⟨i2, z2, d2, tfe⟩ := hT.get he
          cases hx : ρ x <;> rw [hx] at hk <;> first | exact hk.elim | skip
          case p p =>
            cases p <;> first | exact hk.elim | skip
            rename_i sz rows
            have hq := cond_true_of hk; clear hk; obtain ⟨hb, hk⟩ := hq
            have := Nat.eq_of_beq_eq_true hb; subst this
            exact OpOut.still [] (fun H _ => sem_indexAddr_seq tf ht tfe ho hx hy hk.1.1 hk.1.2) hk.2
          case sl id off len =>
            try simp only at hk
            cases hH : h id with
            | none => rw [hH] at hk; exact hk.elim
            | some b =>
              rw [hH] at hk
              cases b <;> first | exact hk.elim | skip
              rename_i tb sz rows
              simp only at hk
              have hq := cond_true_of hk; clear hk; obtain ⟨hb, hk⟩ := hq
              have := Nat.eq_of_beq_eq_true hb; subst this
              exact OpOut.still [id] (fun H hH' => sem_indexAddr_sl tf ht tfe ho hx ((hH' id (by simp)).trans hH) hy hk.1.1 hk.1.2) hk.2
  case index t x y =>
    unfold opA at hk; rw [ho] at hk; simp only at hk
    try simp only at hk
    cases hl : look tab t with
    | none => rw [hl] at hk; exact hk.elim
    | some ti =>
      rw [hl] at hk; simp only at hk
      obtain ⟨i, z, d, tf⟩ := hT.get hl
      cases ht : ti.ty <;> rw [ht] at hk <;> simp only at hk
      cases hx : ρ x <;> rw [hx] at hk <;> first | exact hk.elim | skip
      rename_i q
      cases q <;> first | exact hk.elim | skip
      rename_i cv
      cases cv <;> first | exact hk.elim | skip
      simp only at hk
      cases hy : ρ y <;> rw [hy] at hk <;> first | exact hk.elim | skip
      rename_i q
      cases q <;> first | exact hk.elim | skip
      rename_i cv
      cases cv <;> first | exact hk.elim | skip
      obtain ⟨h0, b, hb, hk⟩ := hk
      exact OpOut.still [] (fun H _ => sem_index_str tf ht ho hx hy h0 hb) hk
  case extract x j =>
    unfold opA at hk; rw [ho] at hk; simp only at hk
    cases hx : ρ x <;> rw [hx] at hk <;> first | exact hk.elim | skip
    rename_i ts
    try simp only at hk
    cases hn : nth ts j with
    | none => rw [hn] at hk; exact hk.elim
    | some y =>
      rw [hn] at hk
      have hq := cond_true_of hk; clear hk; obtain ⟨hb, hk⟩ := hq
      rw [nth_eq] at hn
      exact OpOut.still [] (fun H _ => sem_extract ho hx hn (by cases y <;> first | rfl | simp [noTup] at hb)) hk
  case binOp op t x y u =>
    unfold opA at hk; rw [ho] at hk
    exact out_binOp hT h1 ho hk
  case unOp op t x =>
    unfold opA at hk; rw [ho] at hk; simp only at hk
    cases hx : ρ x <;> rw [hx] at hk <;> first | exact hk.elim | skip
    rename_i p
    try simp only at hk
    cases hu : unA op p with
    | none => rw [hu] at hk; exact hk.elim
    | some v => rw [hu] at hk; exact OpOut.still [] (fun H _ => sem_un ho hx hu) hk
  case convert s t x =>
    unfold opA at hk; rw [ho] at hk; simp only at hk
    try simp only at hk
    cases hs : look tab s with
    | none => rw [hs] at hk; exact hk.elim
    | some tsi =>
      rw [hs] at hk; simp only at hk
      obtain ⟨i0, z0, d0, tf0⟩ := hT.get hs
      try simp only at hk
      cases hl : look tab t with
      | none => rw [hl] at hk; exact hk.elim
      | some ti =>
        rw [hl] at hk; simp only at hk
        obtain ⟨i, z, d, tf⟩ := hT.get hl
        cases ht : ti.ty <;> rw [ht] at hk <;> simp only at hk
        cases hx : ρ x <;> rw [hx] at hk <;> first | exact hk.elim | skip
        rename_i q
        cases q <;> first | exact hk.elim | skip
        rename_i cv
        cases cv <;> first | exact hk.elim | skip
        exact OpOut.still [] (fun H _ => sem_convint tf0 tf ht ho hx) hk
  case makeFunc fn first caps =>
    unfold opA at hk; rw [ho] at hk
    cases fn <;> first | exact hk.elim | skip
    rename_i f
    simp only at hk
    cases hfi : first.toList with
    | cons a l => rw [hfi] at hk; exact hk.elim
    | nil =>
      rw [hfi] at hk
      have : first = #[] := by apply Array.ext'; simpa using hfi
      subst this
      simp only at hk
      try simp only at hk
      cases hc : capsA (caps.toList.map ρ) with
      | none => rw [hc] at hk; exact hk.elim
      | some r => rw [hc] at hk; exact OpOut.still [] (fun H _ => sem_makeFunc ho hc) (forceL_eq _ (fun r => K (.fn f r) [] []) hk)
  case makeSlice t x y =>
    unfold opA at hk; rw [ho] at hk; simp only at hk
    try simp only at hk
    cases hl : look tab t with
    | none => rw [hl] at hk; exact hk.elim
    | some ti =>
      rw [hl] at hk; simp only at hk
      cases ht : ti.ty <;> rw [ht] at hk <;> simp only at hk
      rename_i e
      try simp only at hk
      cases he : look tab e with
      | none => rw [he] at hk; exact hk.elim
      | some te =>
        rw [he] at hk; simp only at hk
        have hq := cond_true_of hk; clear hk; obtain ⟨hb, hk⟩ := hq
        rw [Bool.and_eq_true] at hb
        cases hx : ρ x <;> rw [hx] at hk <;> first | exact hk.elim | skip
        rename_i q
        cases q <;> first | exact hk.elim | skip
        rename_i cv
        cases cv <;> first | exact hk.elim | skip
        simp only at hk
        cases hy : ρ y <;> rw [hy] at hk <;> first | exact hk.elim | skip
        rename_i q
        cases q <;> first | exact hk.elim | skip
        rename_i cv
        cases cv <;> first | exact hk.elim | skip
        obtain ⟨rfl, hb2, hk⟩ := hk
        exact OpOut.new (fun H => sem_makeSlice hT ho hl ht he (by simpa [Nat.blt_eq] using hb.1) (by simpa [Nat.blt_eq] using hb.2) hx hy hb2.1 hb2.2 hm0) hk
  case slice t x lo hi mx =>
    unfold opA at hk; rw [ho] at hk; simp only at hk
    try simp only at hk
    cases hl : look tab t with
    | none => rw [hl] at hk; exact hk.elim
    | some ti =>
      rw [hl] at hk; simp only at hk
      cases ht : ti.ty <;> rw [ht] at hk <;> simp only at hk
      case string =>
        cases mx with
        | some v => exact hk.elim
        | none =>
          simp only at hk
          cases hx : ρ x <;> rw [hx] at hk <;> first | exact hk.elim | skip
          rename_i q
          cases q <;> first | exact hk.elim | skip
          rename_i cv
          cases cv <;> first | exact hk.elim | skip
          rename_i s
          simp only at hk
          try simp only at hk
          cases b1 : bndA ρ lo 0 with
          | none => rw [b1] at hk; exact hk.elim
          | some q1 =>
            obtain ⟨c1, l⟩ := q1
            rw [b1] at hk; simp only at hk
            try simp only at hk
            cases b2 : bndA ρ hi s.size with
            | none => rw [b2] at hk; exact hk.elim
            | some q2 =>
              obtain ⟨c2, hh⟩ := q2
              rw [b2] at hk; simp only at hk
              obtain ⟨⟨g1, g2, g3, g4⟩, hk⟩ := hk
              exact OpOut.still [] (fun H _ => sem_slice_str hT ho hl ht hx b1 g1 b2 g2 g3 g4) hk
      case slice e =>
        try simp only at hk
        cases he : look tab e with
        | none => rw [he] at hk; exact hk.elim
        | some te =>
          rw [he] at hk; simp only at hk
          cases mx with
          | none =>
            simp only at hk
            cases hx : ρ x <;> rw [hx] at hk <;> first | exact hk.elim | skip
            case p p =>
              cases p <;> first | exact hk.elim | skip
              rename_i sz rows
              have hq := cond_true_of hk; clear hk; obtain ⟨hb, hk⟩ := hq
              have := Nat.eq_of_beq_eq_true hb; subst this
              try simp only at hk
              cases b1 : bndA ρ lo 0 with
              | none => rw [b1] at hk; exact hk.elim
              | some q1 =>
                obtain ⟨c1, l⟩ := q1
                rw [b1] at hk; simp only at hk
                try simp only at hk
                cases b2 : bndA ρ hi rows.length with
                | none => rw [b2] at hk; exact hk.elim
                | some q2 =>
                  obtain ⟨c2, hh⟩ := q2
                  rw [b2] at hk; simp only at hk
                  obtain ⟨⟨g1, g2, g3, g4⟩, hk⟩ := hk
                  exact OpOut.still [] (fun H _ => sem_slice_seq hT ho hl ht he hx b1 g1 b2 g2 g3 g4) hk
            case sl id off len =>
              try simp only at hk
              cases hH : h id with
              | none => rw [hH] at hk; exact hk.elim
              | some b =>
                rw [hH] at hk
                cases b <;> first | exact hk.elim | skip
                rename_i tb sz rows
                simp only at hk
                have hq := cond_true_of hk; clear hk; obtain ⟨hb, hk⟩ := hq
                have := Nat.eq_of_beq_eq_true hb; subst this
                try simp only at hk
                cases b1 : bndA ρ lo 0 with
                | none => rw [b1] at hk; exact hk.elim
                | some q1 =>
                  obtain ⟨c1, l⟩ := q1
                  rw [b1] at hk; simp only at hk
                  try simp only at hk
                  cases b2 : bndA ρ hi len with
                  | none => rw [b2] at hk; exact hk.elim
                  | some q2 =>
                    obtain ⟨c2, hh⟩ := q2
                    rw [b2] at hk; simp only at hk
                    obtain ⟨⟨g1, g2, g3, g4⟩, hk⟩ := hk
                    exact OpOut.still [id] (fun H hH' => sem_slice_sl hT ho hl ht he hx ((hH' id (by simp)).trans hH) b1 g1 b2 g2 g3 g4) hk
          | some v =>
            simp only at hk
            cases hi with
            | none => exact hk.elim
            | some y =>
              simp only at hk
              cases hy : ρ y <;> rw [hy] at hk <;> first | exact hk.elim | skip
              rename_i q
              cases q <;> first | exact hk.elim | skip
              rename_i cv
              cases cv <;> first | exact hk.elim | skip
              simp only at hk
              cases hv : ρ v <;> rw [hv] at hk <;> first | exact hk.elim | skip
              rename_i q
              cases q <;> first | exact hk.elim | skip
              rename_i cv
              cases cv <;> first | exact hk.elim | skip
              simp only at hk
              try simp only at hk
              cases hn : lenA (ρ x) with
              | none => rw [hn] at hk; exact hk.elim
              | some n =>
                rw [hn] at hk; simp only at hk
                try simp only at hk
                cases b1 : bndA ρ lo 0 with
                | none => rw [b1] at hk; exact hk.elim
                | some q1 =>
                  obtain ⟨c1, l⟩ := q1
                  rw [b1] at hk; simp only at hk
                  obtain ⟨⟨g1, g2, g3, g4, g5, g6⟩, hk⟩ := hk
                  refine OpOut.still [] (fun H _ => sem_slice3 hT ho hl ht he (n := n) ?_ b1 g1 hy hv g3 g4 g5 g6) hk
                  cases hx : ρ x <;> rw [hx] at g2 hn <;> try (exact g2.elim)
                  · rename_i p
                    cases p with
                    | sc => exact g2.elim
                    | seq sz rows => simp only [lenA, Option.some.injEq] at hn; exact .inr ⟨sz, rows, rfl, hn.symm⟩
                  · rename_i id off len
                    simp only [lenA, Option.some.injEq] at hn; subst hn; exact .inl ⟨id, off, rfl⟩
  case call c =>
    unfold opA at hk; rw [ho] at hk
    obtain ⟨callee, args, ats⟩ := c
    cases callee with
    | invoke r mt => exact hk.elim
    | value fo =>
      simp only at hk
      cases hf : ρ fo <;> rw [hf] at hk <;> first | exact hk.elim | skip
      rename_i f caps
      have hq := cond_true_of hk; clear hk; obtain ⟨hn, hk⟩ := hq
      obtain ⟨x, touch, put, hc, hk⟩ := hk
      exact ⟨x, touch, put, sem_call ho hf hn hc, hk⟩
    | builtin b =>
      cases b <;> first | exact hk.elim | skip
      case len =>
        simp only at hk
        cases ha : args.toList with
        | nil => rw [ha] at hk; exact hk.elim
        | cons x l =>
          rw [ha] at hk
          cases l with
          | cons y l => exact hk.elim
          | nil =>
            simp only at hk
            cases hat : ats.toList with
            | nil => rw [hat] at hk; exact hk.elim
            | cons t l =>
              rw [hat] at hk
              cases l with
              | cons y l => exact hk.elim
              | nil =>
                have e1 : args = #[x] := by apply Array.ext'; simpa using ha
                have e2 : ats = #[t] := by apply Array.ext'; simpa using hat
                subst e1; subst e2
                simp only at hk
                try simp only at hk
                cases hl : look tab t with
                | none => rw [hl] at hk; exact hk.elim
                | some ti =>
                  rw [hl] at hk; simp only at hk
                  obtain ⟨i, z, d, tf⟩ := hT.get hl
                  cases ht : ti.ty <;> rw [ht] at hk <;> simp only at hk
                  · exact OpOut.still [] (fun H _ => sem_len_arr ho tf ht) hk
                  · cases hn : lenA (ρ x) with
                    | none => rw [hn] at hk; exact hk.elim
                    | some n => rw [hn] at hk; exact OpOut.still [] (fun H _ => sem_len ho tf ht hn) hk
                  · cases hx : ρ x <;> rw [hx] at hk <;> first | exact hk.elim | skip
                    rename_i q
                    cases q <;> first | exact hk.elim | skip
                    rename_i cv
                    cases cv <;> first | exact hk.elim | skip
                    exact OpOut.still [] (fun H _ => sem_len_str ho tf ht hx) hk
      case clear =>
        simp only at hk
        cases ha : args.toList with
        | nil => rw [ha] at hk; exact hk.elim
        | cons x l =>
          rw [ha] at hk
          cases l with
          | cons y l => exact hk.elim
          | nil =>
            simp only at hk
            cases hat : ats.toList with
            | nil => rw [hat] at hk; exact hk.elim
            | cons t l =>
              rw [hat] at hk
              cases l with
              | cons y l => exact hk.elim
              | nil =>
                have e1 : args = #[x] := by apply Array.ext'; simpa using ha
                have e2 : ats = #[t] := by apply Array.ext'; simpa using hat
                subst e1; subst e2
                simp only at hk
                try simp only at hk
                cases hl : look tab t with
                | none => rw [hl] at hk; exact hk.elim
                | some ti =>
                  rw [hl] at hk; simp only at hk
                  cases ht : ti.ty <;> rw [ht] at hk <;> simp only at hk
                  rename_i e
                  try simp only at hk
                  cases he : look tab e with
                  | none => rw [he] at hk; exact hk.elim
                  | some te =>
                    rw [he] at hk; simp only at hk
                    cases hx : ρ x <;> rw [hx] at hk <;> first | exact hk.elim | skip
                    rename_i id off len
                    try simp only at hk
                    cases hH : h id with
                    | none => rw [hH] at hk; exact hk.elim
                    | some b =>
                      rw [hH] at hk
                      cases b <;> first | exact hk.elim | skip
                      rename_i tb sz rows
                      simp only at hk
                      have hq := cond_true_of hk; clear hk; obtain ⟨hb, hk⟩ := hq
                      rw [Bool.and_eq_true, Bool.and_eq_true] at hb
                      have q1 := Nat.eq_of_beq_eq_true hb.1.1; subst q1
                      have q2 := Nat.eq_of_beq_eq_true hb.1.2; subst q2
                      exact OpOut.store1 (fun H hH' => sem_clear hT ho hl ht he (by simpa [Nat.blt_eq] using hb.2) hx (hH'.trans hH) hk.1.1 hk.1.2) hk.2
      case append =>
        simp only at hk
        cases ha : args.toList with
        | nil => rw [ha] at hk; exact hk.elim
        | cons s l =>
          rw [ha] at hk
          cases l with
          | nil => exact hk.elim
          | cons x l =>
            cases l with
            | cons y l => exact hk.elim
            | nil =>
              simp only at hk
              cases hat : ats.toList with
              | nil => rw [hat] at hk; exact hk.elim
              | cons t l =>
                rw [hat] at hk
                cases l with
                | nil => exact hk.elim
                | cons u l =>
                  cases l with
                  | cons y l => exact hk.elim
                  | nil =>
                    have e1 : args = #[s, x] := by apply Array.ext'; simpa using ha
                    have e2 : ats = #[t, u] := by apply Array.ext'; simpa using hat
                    subst e1; subst e2
                    simp only at hk
                    try simp only at hk
                    cases hl : look tab t with
                    | none => rw [hl] at hk; exact hk.elim
                    | some ti =>
                      rw [hl] at hk; simp only at hk
                      cases ht : ti.ty <;> rw [ht] at hk <;> simp only at hk
                      rename_i e
                      try simp only at hk
                      cases he : look tab e with
                      | none => rw [he] at hk; exact hk.elim
                      | some te =>
                        rw [he] at hk; simp only at hk
                        have hq := cond_true_of hk; clear hk; obtain ⟨hb, hk⟩ := hq
                        rw [Bool.and_eq_true, Bool.and_eq_true] at hb
                        have q1 := Nat.eq_of_beq_eq_true hb.1.1; subst q1
                        have hs : 0 < te.size := by simpa [Nat.blt_eq] using hb.1.2
                        have hby : 0 < te.bytes := by simpa [Nat.blt_eq] using hb.2
                        obtain ⟨rows2, hsr, hk⟩ := srcK_of hk
                        · try simp only at hk
                          cases hsx : ρ s <;> rw [hsx] at hk <;> first | exact hk.elim | skip
                          case nil =>
                            refine OpOut.gen (srcT (ρ x)) [(m, some (.arr e te.size rows2))] (H' := fun H j => if j = m then some (.arr e te.size rows2) else H j) (fun H hH => sem_append_nil hT ho hl ht he hs hby hsx (by rw [srcA_congr hH]; exact hsr) hk.1 hm0) (fun H hH j b hd hp => ?_) hk.2
                            rw [putF_one] at hp
                            by_cases hj : j = m
                            · simpa [hj] using hp
                            · simp only [hj, if_false] at hp ⊢
                              rw [hH j hd]; exact hp
                          case sl id off n =>
                            try simp only at hk
                            cases hH : h id with
                            | none => rw [hH] at hk; exact hk.elim
                            | some b =>
                              rw [hH] at hk
                              cases b <;> first | exact hk.elim | skip
                              rename_i tb sz rows
                              simp only at hk
                              have hq := cond_true_of hk; clear hk; obtain ⟨hb2, hk⟩ := hq
                              rw [Bool.and_eq_true, Bool.and_eq_true] at hb2
                              have q1 := Nat.eq_of_beq_eq_true hb2.1.1; subst q1
                              have q2 := Nat.eq_of_beq_eq_true hb2.1.2; subst q2
                              have q3 := Nat.eq_of_beq_eq_true hb2.2; subst q3
                              rcases hk with ⟨⟨g1, g2⟩, hk⟩ | ⟨⟨g1, g2⟩, hk⟩
                              · refine OpOut.gen (id :: srcT (ρ x)) [(m, some (.arr tb te.size (rows ++ rows2))), (id, none)] (H' := fun H j => if j = m then some (.arr tb te.size (rows ++ rows2)) else if j = id then none else H j)
                                  (fun H hH' => sem_append hT ho hl ht he hs hby hsx ((hH' id (by simp)).trans hH) g1 (by rw [srcA_congr fun j hj => hH' j (by simp [hj])]; exact hsr) g2 hm0) (fun H hH' j b hd hp => ?_) hk
                                rw [putF_two] at hp
                                by_cases hj : j = m
                                · simpa [hj] using hp
                                · by_cases hj2 : j = id
                                  · subst hj2; rw [if_neg hj, if_pos rfl] at hp; cases hp
                                  · simp only [hj, hj2, if_false] at hp ⊢
                                    rw [hH' j hd]; exact hp
                              · refine OpOut.gen (id :: srcT (ρ x)) [(id, some (.arr tb te.size (rows.take n ++ rows2 ++ rows.drop (n + rows2.length))))] (H' := fun H j => if j = id then some (.arr tb te.size (rows.take n ++ rows2 ++ rows.drop (n + rows2.length))) else H j)
                                  (fun H hH' => sem_append_over hT ho hl ht he hs hsx ((hH' id (by simp)).trans hH) (by rw [srcA_congr fun j hj => hH' j (by simp [hj])]; exact hsr) g1 g2) (fun H hH' j b hd hp => ?_) hk
                                rw [putF_one] at hp
                                by_cases hj : j = id
                                · simpa [hj] using hp
                                · simp only [hj, if_false] at hp ⊢
                                  rw [hH' j hd]; exact hp
      all_goals
        simp only at hk
        cases ha : args.toList with
        | nil => rw [ha] at hk; exact hk.elim
        | cons x l =>
          rw [ha] at hk
          cases l with
          | nil => exact hk.elim
          | cons y l =>
            cases l with
            | cons y l => exact hk.elim
            | nil =>
              simp only at hk
              cases hat : ats.toList with
              | nil => rw [hat] at hk; exact hk.elim
              | cons t l =>
                rw [hat] at hk
                cases l with
                | nil => exact hk.elim
                | cons u l =>
                  cases l with
                  | cons y l => exact hk.elim
                  | nil =>
                    have e1 : args = #[x, y] := by apply Array.ext'; simpa using ha
                    have e2 : ats = #[t, u] := by apply Array.ext'; simpa using hat
                    subst e1; subst e2
                    simp only at hk
                    cases hx : ρ x <;> rw [hx] at hk <;> first | exact hk.elim | skip
                    rename_i q
                    cases q <;> first | exact hk.elim | skip
                    rename_i cv
                    cases cv <;> first | exact hk.elim | skip
                    simp only at hk
                    cases hy : ρ y <;> rw [hy] at hk <;> first | exact hk.elim | skip
                    rename_i q
                    cases q <;> first | exact hk.elim | skip
                    rename_i cv
                    cases cv <;> first | exact hk.elim | skip
                    first
                      | exact OpOut.still [] (fun H _ => sem_minmax (.inl rfl) ho hx hy) hk
                      | exact OpOut.still [] (fun H _ => sem_minmax (.inr rfl) ho hx hy) hk
  all_goals (unfold opA at hk; rw [ho] at hk; exact hk.elim)
end
end Go.Proofs.Am
