/- Regions and code, as a formula over values. -/
import Derived.Test.YtpkfagbllafehaaAmN
import Derived.Deep.LoopGhost
import Derived.Scope
namespace Go.Proofs.Am
open Go Go.RowKit
set_option linter.unusedVariables false
set_option linter.unusedSimpArgs false

structure St where
  T : List (Nat × AV)
  H : List (Nat × Option Blk)
  nx : Nat
def St.tf (S : St) (t : Nat) : AV := match look S.T t with
  | some x => x
  | none => .any
def St.hf (S : St) (id : Nat) : Option Blk := match look S.H id with
  | some b => b
  | none => none
def setT (T : List (Nat × AV)) (dst : Option Nat) (x : AV) : List (Nat × AV) := match dst with
  | some d => (d, x) :: T
  | none => T
def tmpOf : Operand → Option Nat
  | .tmp t => some t
  | _ => none
def gTmp (all : List Oper) (o : Oper) : Option Nat := match o.guard with
  | none => none
  | some (j, _) => match nth all j with
    | none => none
    | some q => q.dst
def usesOf (all : List Oper) (o : Oper) : List Nat := match gTmp all o with
  | none => o.op.operands.toList.filterMap tmpOf
  | some d => d :: o.op.operands.toList.filterMap tmpOf

def forceA (x : AV) (K : AV → Prop) : Prop :=
  match x with
  | .any => K .any
  | .und => K .und
  | .nil => K .nil
  | .emp => K .emp
  | .p (.sc (.int k n)) => K (.p (.sc (.int k n)))
  | .p (.sc (.bool b)) => K (.p (.sc (.bool b)))
  | .p (.sc (.string s)) => K (.p (.sc (.string s)))
  | .p (.sc v) => K (.p (.sc v))
  | .p (.seq n r) => K (.p (.seq n r))
  | .ptr a b c => K (.ptr a b c)
  | .fptr a b c d => K (.fptr a b c d)
  | .sl a b c => K (.sl a b c)
  | .fn f c => K (.fn f c)
  | .agg cs => forceL cs fun cs => K (.agg cs)
  | .tup ts => forceL ts fun ts => K (.tup ts)
theorem forceA_eq {x : AV} {K : AV → Prop} (h : forceA x K) : K x := by
  unfold forceA at h
  split at h <;> first | exact h | exact forceL_eq _ (fun cs => K (.agg cs)) h | exact forceL_eq _ (fun cs => K (.tup cs)) h
def forceN (n : Nat) (K : Nat → Prop) : Prop := match n with
  | 0 => K 0
  | k + 1 => K (k + 1)
theorem forceN_eq {n : Nat} {K : Nat → Prop} (h : forceN n K) : K n := by cases n <;> exact h
def pushH : List (Nat × Option Blk) → List (Nat × Option Blk) → (List (Nat × Option Blk) → Prop) → Prop
  | [], H, K => K H
  | p :: l, H, K => pushH l H fun m => K (p :: m)
theorem pushH_eq : ∀ {l H : List (Nat × Option Blk)} {K : List (Nat × Option Blk) → Prop}, pushH l H K → K (l ++ H)
  | [], _, _, h => h
  | p :: l, H, K, h => pushH_eq (K := fun m => K (p :: m)) h

def tfL (T : List (Nat × AV)) (t : Nat) : AV := match look T t with
  | some x => x
  | none => .any
def hfL (H : List (Nat × Option Blk)) (id : Nat) : Option Blk := match look H id with
  | some b => b
  | none => none

def guardA (all : List Oper) (o : Oper) (T : List (Nat × AV)) (k : List (Nat × AV) → Bool → Prop) : Prop :=
  match o.guard with
  | none => k T true
  | some (_, want) => match gTmp all o with
    | none => k T false
    | some d => match tfL T d with
      | .p (.sc (.bool b)) => cond b (k ((d, .p (.sc (.bool true))) :: T) want) (k ((d, .p (.sc (.bool false))) :: T) (!want))
      | .und => k T false
      | _ => False

abbrev KR := List (Nat × AV) → List (Nat × Option Blk) → List TE → Prop
/-- One operation, ahead of the others (ih). -/
def stepR (P : Program) (tab : List (Nat × TI)) (N : Nat) (draw : Bool) (all : List Oper) (K : KR) (o : Oper) (ih : Nat → List (Nat × AV) → List (Nat × Option Blk) → List TE → Prop) (m : Nat) (T : List (Nat × AV)) (H : List (Nat × Option Blk)) (tr : List TE) : Prop :=
  guardA all o T fun T run => cond run
    (opA P tab o (opAV (tfL T)) (hfL H) m fun x touch put => forceA x fun x => pushH put H fun H => forceN (m + 16) fun m => match o.dst with
      | some d => cond (Nat.blt d N) (ih m ((d, x) :: T) H (cond draw (⟨some d, usesOf all o, false, touch, put, x⟩ :: tr) tr)) False
      | none => ih m T H (cond draw (⟨none, usesOf all o, false, touch, put, x⟩ :: tr) tr))
    (forceN (m + 16) fun m => match o.dst with
      | some d => cond (Nat.blt d N) (ih m ((d, .und) :: T) H (cond draw (⟨some d, usesOf all o, true, [], [], .und⟩ :: tr) tr)) False
      | none => ih m T H (cond draw (⟨none, usesOf all o, true, [], [], .und⟩ :: tr) tr))
noncomputable def evalR (P : Program) (tab : List (Nat × TI)) (N : Nat) (draw : Bool) (all : List Oper) (l : List Oper) (m : Nat) (T : List (Nat × AV)) (H : List (Nat × Option Blk)) (tr : List TE) (K : KR) : Prop :=
  List.rec (motive := fun _ => Nat → List (Nat × AV) → List (Nat × Option Blk) → List TE → Prop) (fun _ T H tr => K T H tr) (fun o _ ih => stepR P tab N draw all K o ih) l m T H tr

theorem tf_set (T : List (Nat × AV)) (H : List (Nat × Option Blk)) (nx : Nat) (dst : Option Nat) (x : AV) : (St.mk (setT T dst x) H nx).tf = fun t => if dst = some t then x else (St.mk T H nx).tf t := by
  funext t
  cases dst with
  | none => simp [setT, St.tf]
  | some d =>
    simp only [setT, St.tf, look]
    by_cases h : d = t
    · subst h; simp [Nat.beq_refl]
    · have : Nat.beq d t = false := by cases hq : Nat.beq d t; rfl; exact absurd (Nat.eq_of_beq_eq_true hq) h
      simp [this, h]
theorem look_append {α : Type} (l m : List (Nat × α)) (k : Nat) : look (l ++ m) k = match look l k with
    | some x => some x
    | none => look m k := by
  induction l with
  | nil => rfl
  | cons p l ih =>
    simp only [List.cons_append, look]
    cases Nat.beq p.1 k
    · simpa using ih
    · rfl
theorem hf_put (T : List (Nat × AV)) (H put : List (Nat × Option Blk)) (nx : Nat) : (St.mk T (put ++ H) nx).hf = putF put (St.mk T H nx).hf := by
  funext id
  simp only [St.hf, putF, look_append]
  cases look put id <;> rfl

theorem gTmp_eq {ops : Array Oper} {o : Oper} : gTmp ops.toList o = guardTmp ops o := by
  unfold gTmp guardTmp
  cases hg : o.guard with
  | none => rfl
  | some g =>
    obtain ⟨j, w⟩ := g
    simp only [Option.bind_some, nth_eq, Array.getElem?_toList]
    cases ops[j]? <;> rfl

theorem uses_of {ops : Array Oper} {o : Oper} (t : Nat) (h : Operand.tmp t ∈ o.op.operands ∨ guardTmp ops o = some t) : t ∈ usesOf ops.toList o := by
  unfold usesOf
  rw [gTmp_eq]
  rcases h with h | h
  · have : t ∈ o.op.operands.toList.filterMap tmpOf := List.mem_filterMap.2 ⟨.tmp t, by simpa using h, rfl⟩
    cases guardTmp ops o with
    | none => exact this
    | some d => exact List.mem_cons_of_mem _ this
  · rw [h]; exact List.mem_cons_self

theorem guardA_of {ops : Array Oper} {o : Oper} {T : List (Nat × AV)} {k : List (Nat × AV) → Bool → Prop} (h : guardA ops.toList o T k) : ∃ T' run, tfL T' = tfL T ∧ wantedBy ops o (tfL T) = some run ∧ k T' run := by
  unfold guardA at h
  unfold wantedBy
  have hg := gTmp_eq (ops := ops) (o := o)
  unfold guardTmp at hg
  cases ho : o.guard with
  | none => rw [ho] at h; exact ⟨T, true, rfl, rfl, h⟩
  | some g =>
    obtain ⟨j, want⟩ := g
    rw [ho] at h hg
    simp only [Option.bind_some] at h hg ⊢
    rw [hg] at h
    cases hd : (ops[j]?).bind (·.dst) with
    | none => rw [hd] at h; exact ⟨T, false, rfl, rfl, h⟩
    | some d =>
      rw [hd] at h
      simp only at h ⊢
      cases hx : tfL T d <;> rw [hx] at h <;> first | exact h.elim | skip
      · exact ⟨T, false, rfl, rfl, h⟩
      · rename_i q
        cases q <;> first | exact h.elim | skip
        rename_i cv
        cases cv <;> first | exact h.elim | skip
        rename_i b
        simp only at h ⊢
        have key : ∀ c, c = b → tfL ((d, .p (.sc (.bool c))) :: T) = tfL T := fun c hc => by
          have := tf_set T [] 0 (some d) (.p (.sc (.bool c)))
          simp only [setT] at this
          have e : tfL ((d, .p (.sc (.bool c))) :: T) = (St.mk ((d, .p (.sc (.bool c))) :: T) [] 0).tf := rfl
          rw [e, this]
          funext t
          by_cases ht : d = t
          · subst ht; subst hc; simp only [if_true]; exact hx.symm
          · simp only [Option.some.injEq, ht, if_false]; rfl
        cases b
        · exact ⟨_, _, key false rfl, by cases want <;> rfl, h⟩
        · exact ⟨_, _, key true rfl, by cases want <;> rfl, h⟩

theorem evalR_sound {P : Program} {tab : List (Nat × TI)} (hT : TabOk P tab) (h1 : oneB tab = true) {N nx : Nat} {draw : Bool} {ops : Array Oper} {K : List (Nat × AV) → List (Nat × Option Blk) → List TE → Prop} : ∀ (l : List Oper) (i : Nat) (T : List (Nat × AV)) (H : List (Nat × Option Blk)) (tr : List TE), evalR P tab N draw ops.toList l (nx + 16 * i) T H tr K →
    ∃ tr' T' H', TraceOk P ops N nx i l (tfL T) (hfL H) tr' ∧ K T' H' (cond draw (tr'.reverse ++ tr) tr) ∧ tfL T' = allT tr' (tfL T) ∧ hfL H' = allH tr' (hfL H)
  | [], i, T, H, tr, h => ⟨[], T, H, rfl, by cases draw <;> exact h, rfl, rfl⟩
  | o :: l, i, T, H, tr, h => by
    have h : stepR P tab N draw ops.toList K o (fun m T H tr => evalR P tab N draw ops.toList l m T H tr K) (nx + 16 * i) T H tr := h
    unfold stepR at h
    obtain ⟨T1, run, e1, hw, h⟩ := guardA_of h
    -- what stands behind one operation
    have go : ∀ (te : TE) (T2 : List (Nat × AV)) (H2 : List (Nat × Option Blk)), evalR P tab N draw ops.toList l (nx + 16 * i + 16) T2 H2 (cond draw (te :: tr) tr) K → tfL T2 = te.T (tfL T) → hfL H2 = te.H (hfL H) → EntryOk P ops N nx i o (tfL T) (hfL H) te →
        ∃ tr' T' H', TraceOk P ops N nx i (o :: l) (tfL T) (hfL H) tr' ∧ K T' H' (cond draw (tr'.reverse ++ tr) tr) ∧ tfL T' = allT tr' (tfL T) ∧ hfL H' = allH tr' (hfL H) := by
      intro te T2 H2 hh q1 q2 hte
      rw [show nx + 16 * i + 16 = nx + 16 * (i + 1) by omega] at hh
      obtain ⟨tr', T', H', t1, t2, t3, t4⟩ := evalR_sound hT h1 l (i + 1) T2 H2 _ hh
      rw [q1, q2] at t1
      rw [q1] at t3
      rw [q2] at t4
      refine ⟨te :: tr', T', H', ⟨te, tr', rfl, hte, t1⟩, ?_, t3, t4⟩
      cases draw
      · exact t2
      · simpa using t2
    have hfs : ∀ (T : List (Nat × AV)) (d : Option Nat) (x : AV), tfL (setT T d x) = fun t => if d = some t then x else tfL T t := fun T d x => tf_set T [] 0 d x
    cases run
    · simp only [cond_false] at h
      have h := forceN_eq h
      cases hd : o.dst with
      | none =>
        rw [hd] at h
        exact go ⟨none, usesOf ops.toList o, true, [], [], .und⟩ T1 H h (by rw [e1]; funext t; simp [TE.T]) (by funext id; simp [TE.H, look]) ⟨hd.symm, (fun d hdd => by rw [hd] at hdd; cases hdd), fun t ht => uses_of t ht, hw, fun _ => ⟨rfl, rfl, rfl⟩, (fun hs => by cases hs)⟩
      | some d =>
        rw [hd] at h
        obtain ⟨hdN, h⟩ := cond_true_of h
        exact go ⟨some d, usesOf ops.toList o, true, [], [], .und⟩ ((d, .und) :: T1) H h (by have := hfs T1 (some d) .und; simp only [setT] at this; rw [this, e1]; rfl) (by funext id; simp [TE.H, look])
          ⟨hd.symm, (fun d' hdd => by rw [hd] at hdd; cases hdd; simpa [Nat.blt_eq] using hdN), fun t ht => uses_of t ht, hw, fun _ => ⟨rfl, rfl, rfl⟩, (fun hs => by cases hs)⟩
    · simp only [cond_true] at h
      obtain ⟨x, touch, put, hs, h⟩ := opA_sound hT h1 h
      have h := forceN_eq (pushH_eq (forceA_eq h))
      have hH : ∀ te : TE, te.put = put → hfL (put ++ H) = te.H (hfL H) := fun te hp => by
        have := hf_put [] H put 0
        have e : hfL (put ++ H) = (St.mk [] (put ++ H) 0).hf := rfl
        rw [e, this]; funext id; simp only [TE.H, hp, putF]; rfl
      have hsem : OpSem P o (opAV (tfL T)) (cut (domF touch put) (hfL H)) (idsOf nx i) (cut (domF touch put) (putF put (hfL H))) x := by rw [← e1]; exact hs
      cases hd : o.dst with
      | none =>
        rw [hd] at h
        exact go ⟨none, usesOf ops.toList o, false, touch, put, x⟩ T1 (put ++ H) h (by rw [e1]; funext t; simp [TE.T]) (hH _ rfl) ⟨hd.symm, (fun d hdd => by rw [hd] at hdd; cases hdd), fun t ht => uses_of t ht, hw, (fun hs => by cases hs), fun _ => hsem⟩
      | some d =>
        rw [hd] at h
        obtain ⟨hdN, h⟩ := cond_true_of h
        exact go ⟨some d, usesOf ops.toList o, false, touch, put, x⟩ ((d, x) :: T1) (put ++ H) h (by have := hfs T1 (some d) x; simp only [setT] at this; rw [this, e1]; rfl) (hH _ rfl)
          ⟨hd.symm, (fun d' hdd => by rw [hd] at hdd; cases hdd; simpa [Nat.blt_eq] using hdN), fun t ht => uses_of t ht, hw, (fun hs => by cases hs), fun _ => hsem⟩

/-- What a piece of code does, from the state S on. -/
structure Tri (P : Program) (N : Nat) (hp0 : List (Nat × Blk)) (c : Code) (S : St) (K : Exit → St → Prop) : Prop where
  out : ∀ E0, (∀ id, look hp0 id = none → E0.e id = none) → ∀ E a, Gam E0 (look hp0) N (fun id => S.nx ≤ id) S.tf S.hf E a →
    c.wp P (fun x a' w' => ∃ S' E', w' = E'.w ∧ K x S' ∧ Gam E0 (look hp0) N (fun id => S'.nx ≤ id) S'.tf S'.hf E' a') a E.w

abbrev KC := Exit → St → Prop
def wpRegion (P : Program) (tab : List (Nat × TI)) (N : Nat) (ops : Array Oper) (draw : Bool) (S : St) (K : KC) : Prop :=
  match S with
  | ⟨T, H, nx⟩ => forceL ops.toList fun l => evalR P tab N draw l l nx T H [] fun T H tr => forceN (nx + 16 * l.length) fun nx => cond draw (indep l tr.reverse = true ∧ K .normal ⟨T, H, nx⟩) (K .normal ⟨T, H, nx⟩)
def thenK (k : St → Prop) (K : KC) : KC := fun x S => match x with
  | .normal => k S
  | x => K x S
def blockK (id : Nat) (K : KC) : KC := fun x S => match x with
  | .exit j => cond (Nat.beq j id) (K .normal S) (K (.exit j) S)
  | x => K x S
def scopeK (K : KC) : KC := fun x S => match x with
  | .goto _ => False
  | x => K x S
def condK (c : Operand) (a b : St → KC → Prop) (S : St) (K : KC) : Prop := match S with
  | ⟨T, H, nx⟩ => match opAV (tfL T) c with
    | .p (.sc (.bool t)) => cond t (a ⟨T, H, nx⟩ K) (b ⟨T, H, nx⟩ K)
    | _ => False
noncomputable def wpA (P : Program) (tab : List (Nat × TI)) (N : Nat) (hp0 : List (Nat × Blk)) (c : Code) : St → KC → Prop :=
  Code.rec (motive := fun _ => St → KC → Prop)
    (fun S K => K .normal S)
    (fun _ ops draw S K => wpRegion P tab N ops draw S K)
    (fun _ _ iha ihb S K => iha S (thenK (fun S => ihb S K) K))
    (fun c _ _ iha ihb S K => condK c iha ihb S K)
    (fun id _ ih S K => ih S (blockK id K))
    (fun c _ S K => Tri P N hp0 (.loop c) S K)
    (fun _ _ _ _ _ _ _ _ => False)
    (fun id S K => K (.exit id) S)
    (fun _ ih S K => ih S (scopeK K))
    (fun _ _ _ => False)
    (fun _ _ _ => False)
    (fun S K => K .ret S)
    (fun _ _ _ => False) c

theorem Tri.mono {P : Program} {N : Nat} {hp0 : List (Nat × Blk)} {c : Code} {S : St} {K K' : Exit → St → Prop} (h : Tri P N hp0 c S K) (hk : ∀ x S, K x S → K' x S) : Tri P N hp0 c S K' :=
  ⟨fun E0 h0 E a g => wp_mono (h.out E0 h0 E a g) fun x a w ⟨S', E', h1, h2, h3⟩ => ⟨S', E', h1, hk _ _ h2, h3⟩⟩

theorem Gam.nx {E0 : Env} {H0 : Nat → Option Blk} {N : Nat} {F F' : Nat → Prop} {T : Nat → AV} {H : Nat → Option Blk} {E : Env} {a : Act} (g : Gam E0 H0 N F T H E a) (h : ∀ id, F' id → F id) : Gam E0 H0 N F' T H E a :=
  { g with fresh := fun id hid => g.fresh id (h id hid) }

theorem wpA_sound {P : Program} (hm : P.follows .mixedOrders = true) {tab : List (Nat × TI)} (hT : TabOk P tab) (h1 : oneB tab = true) {N : Nat} {hp0 : List (Nat × Blk)} : ∀ (c : Code) (S : St) (K : Exit → St → Prop), wpA P tab N hp0 c S K → Tri P N hp0 c S K := by
  intro c
  induction c with
  | skip => exact fun S K h => ⟨fun E0 h0 E a g => wp_skip ⟨S, E, rfl, h, g⟩⟩
  | region id ops draw =>
    intro S K h
    refine ⟨fun E0 h0 E a g => ?_⟩
    obtain ⟨T, H, nx⟩ := S
    have h : wpRegion P tab N ops draw ⟨T, H, nx⟩ K := h
    have h := forceL_eq _ (fun l => evalR P tab N draw l l nx T H [] fun T H tr => forceN (nx + 16 * l.length) fun nx => cond draw (indep l tr.reverse = true ∧ K .normal ⟨T, H, nx⟩) (K .normal ⟨T, H, nx⟩)) h
    obtain ⟨tr, T', H', t1, t2, t3, t4⟩ := evalR_sound (nx := nx) hT h1 ops.toList 0 T H [] (by simpa using h)
    rw [List.append_nil] at t2
    have fin : K .normal ⟨T', H', nx + 16 * ops.toList.length⟩ → ∀ a E, Gam E0 (look hp0) N (fun id => nx + 16 * ops.toList.length ≤ id) (allT tr (tfL T)) (allH tr (hfL H)) E a →
        ∃ S'' E', E.w = E'.w ∧ K .normal S'' ∧ Gam E0 (look hp0) N (fun id => S''.nx ≤ id) S''.tf S''.hf E' a := fun hk a E g => by
      refine ⟨_, E, rfl, hk, ?_⟩
      rw [← t3, ← t4] at g
      exact g
    cases draw
    · exact t1.plain g (fin (forceN_eq t2))
    · have t2 := forceN_eq t2
      simp only [cond_true, List.reverse_reverse] at t2
      exact t1.any hm t2.1 g (fin t2.2)
  | seq a b iha ihb =>
    intro S K h
    refine ⟨fun E0 h0 E act g => ?_⟩
    refine wp_seq (wp_mono ((iha S _ h).out E0 h0 E act g) fun x a' w' ⟨S', E', e, hk, g'⟩ => ?_)
    cases x
    case normal => subst e; exact (ihb S' K hk).out E0 h0 E' a' g'
    all_goals exact ⟨S', E', e, hk, g'⟩
  | cond c a b iha ihb =>
    intro S K h
    refine ⟨fun E0 h0 E act g => ?_⟩
    obtain ⟨T, H, nx⟩ := S
    have h : condK c (wpA P tab N hp0 a) (wpA P tab N hp0 b) ⟨T, H, nx⟩ K := h
    unfold condK at h
    simp only at h
    have hc := rep_opAV g.tmp c
    cases hx : opAV (tfL T) c <;> rw [hx] at h <;> first | exact h.elim | skip
    rename_i q
    cases q <;> first | exact h.elim | skip
    rename_i cv
    cases cv <;> first | exact h.elim | skip
    rename_i t
    have hc2 : Rep E (.p (.sc (.bool t))) (act.eval c) := by rw [← hx]; exact hc
    refine wp_cond (t := t) (rep_sc hc2) ?_
    cases t
    · exact (ihb _ K h).out E0 h0 E act g
    · exact (iha _ K h).out E0 h0 E act g
  | block id c ih =>
    intro S K h
    refine ⟨fun E0 h0 E act g => ?_⟩
    refine wp_block (wp_mono ((ih S _ h).out E0 h0 E act g) fun x a' w' ⟨S', E', e, hk, g'⟩ => ?_)
    cases x with
    | exit j =>
      simp only [Exit.inBlock, blockK] at hk ⊢
      cases hb : Nat.beq j id
      · rw [hb] at hk
        rw [if_neg (fun hj => by subst hj; rw [Nat.beq_refl] at hb; cases hb)]
        exact ⟨S', E', e, hk, g'⟩
      · rw [hb] at hk
        rw [if_pos (Nat.eq_of_beq_eq_true hb)]
        exact ⟨S', E', e, hk, g'⟩
    | normal => exact ⟨S', E', e, hk, g'⟩
    | goto l => exact ⟨S', E', e, hk, g'⟩
    | ret => exact ⟨S', E', e, hk, g'⟩
    | panic ch => exact ⟨S', E', e, hk, g'⟩
    | outgrown => exact ⟨S', E', e, hk, g'⟩
  | loop c ih => exact fun S K h => h
  | rangeFunc => intro S K h; exact h.elim
  | exit id => exact fun S K h => ⟨fun E0 h0 E a g => wp_exit ⟨S, E, rfl, h, g⟩⟩
  | scope c ih =>
    intro S K h
    refine ⟨fun E0 h0 E act g => ?_⟩
    refine wp_scope_straight (wp_mono ((ih S _ h).out E0 h0 E act g) fun x a' w' ⟨S', E', e, hk, g'⟩ => ?_)
    cases x with
    | goto l => exact hk.elim
    | normal => exact ⟨S', E', e, hk, g'⟩
    | exit j => exact ⟨S', E', e, hk, g'⟩
    | ret => exact ⟨S', E', e, hk, g'⟩
    | panic ch => exact ⟨S', E', e, hk, g'⟩
    | outgrown => exact ⟨S', E', e, hk, g'⟩
  | label l => intro S K h; exact h.elim
  | goto l => intro S K h; exact h.elim
  | ret => exact fun S K h => ⟨fun E0 h0 E a g => wp_ret ⟨S, E, rfl, h, g⟩⟩
  | refuse w => intro S K h; exact h.elim

end Go.Proofs.Am
