/- Handles for the walks. -/
import Derived.Test.YtpkfagbllafehaaAmP
namespace Go.Proofs.Am
open Go Go.RowKit
set_option linter.unusedVariables false
set_option linter.unusedSimpArgs false

/-- A function of values: handed xs it returns x. -/
def ConP (P : Program) (f : FuncId) (xs : List AV) (x : AV) : Prop := Con P f xs [] x [] ∧ SubT [] (fun _ => false) x x

theorem callP {P : Program} {f : FuncId} {xs xs0 : List AV} {x0 : AV} {h : Nat → Option Blk} {m : Nat} {K : KA} (c : ConP P f xs0 x0) (hxs : All2 (SubA [] (fun _ => false)) xs xs0) (k : K x0 [] []) :
    ∃ x touch put, CallSem P f xs (cut (domF touch put) h) (ids m) (cut (domF touch put) (putF put h)) x ∧ K x touch put := by
  refine ⟨x0, [], [], ?_, k⟩
  have := Con.pure (H := cut (domF [] []) h) (F := ids m) c.1 hxs c.2
  refine ⟨this.1, fun E vals a1 a2 a3 a4 => (this.2 E vals a1 a2 a3 a4).mono fun en w' ⟨v, E', e1, e2, p⟩ => ⟨v, E', e1, e2, p.sub fun id k hk => ?_⟩⟩
  have := (cut_some hk).1
  simp [domF, look] at this

theorem SubT.selfp {S : Nat → Bool} {π : List (Nat × Nat)} {x : PV} : SubT π S (.p x) (.p x) := SubT.of (SubA.p rfl) rfl rfl
theorem SubT.selfa {S : Nat → Bool} {π : List (Nat × Nat)} {r : List PV} : SubT π S (.agg (r.map .p)) (.agg (r.map .p)) := SubT.of (SubA.agg up_all) rfl rfl
theorem SubA.selfa {S : Nat → Bool} {π : List (Nat × Nat)} {r : List PV} : SubA π S (.agg (r.map .p)) (.agg (r.map .p)) := SubA.agg up_all
theorem SubT.selft2 {S : Nat → Bool} {π : List (Nat × Nat)} {x y : AV} (h1 : SubA π S x x) (h2 : SubA π S y y) : SubT π S (.tup [x, y]) (.tup [x, y]) := SubT.tup (.cons h1 (.cons h2 .nil))

theorem namesB_nil (n : Nat) : namesB [] [] [] n = true := rfl
/-- The results as they are. -/
theorem FinR.id {H : Nat → Option Blk} {y x : AV} (h : SubT [] (fun _ => false) y x) : FinR [] H y [] x :=
  FinR.mk [] 0 rfl (fun E E' v r k => h E E' v ⟨r.w, r.ok, fun id hid => by simp at hid⟩ k) trivial
/-- A new list, as a value. -/
theorem FinR.frz1 {H : Nat → Option Blk} {id n t sz : Nat} {rows : List (List PV)} (hid : H id = some (.arr t sz (up rows))) (hn : rows.length = n) : FinR [] H (.sl id 0 n) [] (.p (.seq sz rows)) :=
  FinR.freeze id rows (fun _ => none) (.p (.seq sz rows)) hid (fun _ _ h => by cases h) (FrzR.one (Frz1.all hn)) (FinR.id SubT.selfp)

theorem condB {b : Bool} {X Y : Prop} (h1 : b = true → X) (h2 : b = false → Y) : cond b X Y := by cases b; exact h2 rfl; exact h1 rfl

theorem condF {b : Bool} {X Y : Prop} (h : b = false) (k : Y) : cond b X Y := by subst h; exact k
theorem condT {b : Bool} {X Y : Prop} (h : b = true) (k : X) : cond b X Y := by subst h; exact k
theorem SubT.p {S : Nat → Bool} {π : List (Nat × Nat)} {x y : PV} (h : x = y) : SubT π S (.p x) (.p y) := SubT.of (SubA.p h) rfl rfl
theorem SubT.ptr {S : Nat → Bool} {π : List (Nat × Nat)} {id id' row off : Nat} (h : S id = true) (e : renI π id = id') : SubT π S (.ptr id' row off) (.ptr id row off) := SubT.of (e ▸ SubA.ptr h) rfl rfl
theorem SubT.sl {S : Nat → Bool} {π : List (Nat × Nat)} {id id' off off' len len' : Nat} (h : S id = true) (e : renI π id = id') (e2 : off' = off) (e3 : len' = len) : SubT π S (.sl id' off' len') (.sl id off len) := by
  subst e; subst e2; subst e3; exact SubT.of (SubA.sl h) rfl rfl
theorem SubT.nil {S : Nat → Bool} {π : List (Nat × Nat)} : SubT π S .nil .nil := SubT.of SubA.nil rfl rfl
theorem Sub1.sl' {S : Nat → Bool} {π : List (Nat × Nat)} {id id' off off' len len' : Nat} (h : S id = true) (e : renI π id = id') (e2 : off' = off) (e3 : len' = len) : Sub1 π S (.sl id' off' len') (.sl id off len) := by
  subst e; subst e2; subst e3; exact Sub1.sl h
theorem SubB.boxp {π : List (Nat × Nat)} {S : Nat → Bool} {t : TypeId} {r : List PV} : SubB π S (.box t (r.map .p)) (.box t (r.map .p)) := SubB.box up_all

/-- A list that came as a value: nil, empty, or with something in it. -/
theorem Con.split {P : Program} {f : FuncId} {pre post : List AV} {sz : Nat} {hp hp' : List (Nat × Blk)} {x : AV} (h1 : Con P f (pre ++ .nil :: post) hp x hp') (h2 : Con P f (pre ++ .emp :: post) hp x hp') : Con P f (pre ++ .p (.seq sz []) :: post) hp x hp' := by
  refine ⟨h1.1, fun E vals a1 a2 a3 a4 => ?_⟩
  have key : All2 (RepA E) (pre ++ .nil :: post) vals ∨ All2 (RepA E) (pre ++ .emp :: post) vals := by
    clear h1 h2
    induction pre generalizing vals with
    | nil =>
      cases a2 with
      | cons k t =>
        have k : RepP E.ok E.w (.seq sz []) _ := k
        cases k with
        | emp _ a c ha =>
          cases a with
          | none => left; refine .cons ?_ t; have := ha rfl; subst this; exact rfl
          | some a => right; refine .cons ?_ t; exact ⟨a, c, rfl⟩
        | seq _ _ b o' c u h0 hc hm hl hu hr => right; refine .cons ?_ t; exact ⟨⟨b, o', none⟩, c, rfl⟩
    | cons y pre ih =>
      cases a2 with
      | cons k t =>
        rcases ih _ t with q | q
        · exact .inl (.cons k q)
        · exact .inr (.cons k q)
  rcases key with k | k
  · exact h1.2 E vals a1 k a3 a4
  · exact h2.2 E vals a1 k a3 a4
theorem ConP.split {P : Program} {f : FuncId} {pre post : List AV} {sz : Nat} {x : AV} (h1 : ConP P f (pre ++ .nil :: post) x) (h2 : ConP P f (pre ++ .emp :: post) x) : ConP P f (pre ++ .p (.seq sz []) :: post) x := ⟨h1.1.split h2.1, h1.2⟩

theorem wrap_id {n : Int} (h : -9223372036854775808 ≤ n) (h2 : n ≤ 9223372036854775807) : IntKind.i64.wrap n = n := by rw [IntKind.wrap_i64]; omega
theorem wrap_succ {i : Nat} (h : i < 9223372036854775807) : IntKind.i64.wrap ((i : Int) + 1) = ((i + 1 : Nat) : Int) := by rw [wrap_id (by omega) (by omega)]; omega
abbrev iv (n : Int) : PV := .sc (.int .i64 n)
abbrev bv (b : Bool) : PV := .sc (.bool b)
end Go.Proofs.Am
