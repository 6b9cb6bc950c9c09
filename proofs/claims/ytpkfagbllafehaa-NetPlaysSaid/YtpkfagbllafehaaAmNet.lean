/- The net: what its functions do. -/
import Derived.Test.YtpkfagbllafehaaAmR
import Derived.Test.YtpkfagbllafehaaAmT1
namespace Go.Proofs.Am
open Go Go.Proofs
set_option maxRecDepth 100000

theorem copied60 (p : PPacket) (hb : p.msg.fits) : ConP Try.prog 60 [p.av] p.av := by
  refine ⟨?_, SubT.selfa (r := p.cells)⟩
  refine Con.mk tabOk tabOne 10 Try.func60 rfl (by kernel_rfl) rfl ?_
  refine wpA_sound mixed tabOk tabOne _ _ _ ?_
  conv => whnf
  refine callP (clone85 _ (by simpa using hb.1)) (.cons (SubA.p rfl) .nil) ?_
  conv => whnf
  refine callP (clone86 _ (by simpa using hb.2)) (.cons (SubA.p rfl) .nil) ?_
  conv => whnf
  refine ⟨by kernel_rfl, ?_⟩
  conv => whnf
  exact ⟨_, rfl, FinR.id (SubT.selfa (r := p.cells))⟩

def netH (k : Nat) (fl : List PPacket) : List (Nat × Blk) := [(0, .box 26 [.sl k 0 fl.length]), (k, .arr 37 15 (up (packRows fl)))]
theorem netB {π : List (Nat × Nat)} {S : Nat → Bool} {k id n m : Nat} (h : S id = true) (e : renI π id = k) (hn : n = m) : SubB π S (.box 26 [.sl k 0 n]) (.box 26 [.sl id 0 m]) :=
  SubB.box (.cons (Sub1.sl' h e rfl hn) .nil)

theorem arr_up {π : List (Nat × Nat)} {S : Nat → Bool} {t sz : Nat} {rows : List (List AV)} {rows' : List (List PV)} (h : rows = up rows') : SubB π S (.arr t sz rows) (.arr t sz (up rows')) := by subst h; exact SubB.up_eq rfl
theorem arr_pre {π : List (Nat × Nat)} {S : Nat → Bool} {t sz : Nat} {rows rest : List (List AV)} {rows' : List (List PV)} (h : rows = up rows' ++ rest) : SubB π S (.arr t sz rows) (.arr t sz (up rows')) := by
  subst h
  refine SubB.arr fun i x hi => ?_
  obtain ⟨r, h1, rfl⟩ : ∃ r, rows'[i]? = some r ∧ x = r.map .p := by
    simp only [up, List.getElem?_map, Option.map_eq_some_iff] at hi
    obtain ⟨r, h1, h2⟩ := hi; exact ⟨r, h1, h2.symm⟩
  exact ⟨_, by rw [List.getElem?_append_left (by simpa using (List.getElem?_eq_some_iff.1 hi).1)]; exact hi, up_all⟩
theorem len20 (fl : List PPacket) : Con Try.prog 20 [.ptr 0 0 0] (netH 1 fl) (.p (iv fl.length)) (netH 2 fl) := by
  refine Con.mk tabOk tabOne 10 Try.func20 rfl (by kernel_rfl) rfl ?_
  refine wpA_sound mixed tabOk tabOne _ _ _ ?_
  conv => whnf
  exact ⟨_, rfl, FinR.mk [(2, 1)] 10 rfl (SubT.p rfl) ⟨⟨_, rfl, netB rfl rfl rfl⟩, ⟨_, rfl, SubB.up_eq rfl⟩, trivial⟩⟩

theorem up_get0 {fl : List PPacket} {i : Nat} {p : PPacket} (hp : fl[i]? = some p) : (up (packRows fl))[0 + (i : Int).toNat]? = some (p.cells.map .p) := by simp [up, packRows, hp]
theorem netF {fl : List PPacket} {H : Nat → Option Blk} {x y : AV} (h0 : H 0 = some (.box 26 [.sl 1 0 fl.length])) (h1 : H 1 = some (.arr 37 15 (up (packRows fl)))) (hx : SubT [(2, 1)] (nameS (netH 2 fl) (netH 1 fl)) y x) : FinR (netH 1 fl) H y (netH 2 fl) x :=
  FinR.mk [(2, 1)] 10 rfl hx ⟨⟨_, h0, netB rfl rfl rfl⟩, ⟨_, h1, SubB.up_eq rfl⟩, trivial⟩
def zmsg : PMsg := ⟨0, 0, 0, 0, 0, 0, 0, 0, false, [], []⟩
def zpack : PPacket := ⟨0, 0, 0, 0, zmsg⟩

theorem zpackS {π : List (Nat × Nat)} {S : Nat → Bool} : SubA π S (.agg ti37.zero) zpack.av :=
  SubA.agg (.cons (.p rfl) (.cons (.p rfl) (.cons (.p rfl) (.cons (.p rfl) (.cons (.p rfl) (.cons (.p rfl) (.cons (.p rfl) (.cons (.p rfl) (.cons (.p rfl) (.cons (.p rfl) (.cons (.p rfl) (.cons (.p rfl) (.cons (.p rfl) (.cons Sub1.nil_seq (.cons Sub1.nil_seq .nil)))))))))))))))

theorem look19o (fl : List PPacket) (i : Int) (hi : ¬ (0 ≤ i ∧ i < fl.length)) : Con Try.prog 19 [.ptr 0 0 0, .p (iv i)] (netH 1 fl) (.tup [zpack.av, .p (iv 4)]) (netH 2 fl) := by
  refine Con.mk tabOk tabOne 10 Try.func19 rfl (by kernel_rfl) rfl ?_
  refine wpA_sound mixed tabOk tabOne _ _ _ ?_
  conv => whnf
  refine condB (fun h => ?_) (fun h => ?_)
  · conv => whnf
    exact ⟨_, rfl, netF rfl rfl (SubT.tup (.cons zpackS (.cons (SubA.p rfl) .nil)))⟩
  · have h : ¬ i < 0 := by simpa using h
    conv => whnf
    refine condT (by simp; omega) ?_
    conv => whnf
    exact ⟨_, rfl, netF rfl rfl (SubT.tup (.cons zpackS (.cons (SubA.p rfl) .nil)))⟩

theorem look19i (fl : List PPacket) (i : Nat) (p : PPacket) (hp : fl[i]? = some p) (hb : p.msg.fits) : Con Try.prog 19 [.ptr 0 0 0, .p (iv i)] (netH 1 fl) (.tup [p.av, .p (iv 0)]) (netH 2 fl) := by
  have hlt : i < fl.length := (List.getElem?_eq_some_iff.1 hp).1
  refine Con.mk tabOk tabOne 10 Try.func19 rfl (by kernel_rfl) rfl ?_
  refine wpA_sound mixed tabOk tabOne _ _ _ ?_
  conv => whnf
  refine condF (by simpa using hlt) ?_
  conv => whnf
  refine ⟨⟨by omega, by simpa using hlt⟩, ?_⟩
  conv => whnf
  refine ⟨_, up_get0 hp, ?_⟩
  conv => whnf
  refine callP (copied60 p hb) (.cons (SubA.selfa (r := p.cells)) .nil) ?_
  conv => whnf
  exact ⟨_, rfl, netF rfl rfl (SubT.tup (.cons (SubA.selfa (r := p.cells)) (.cons (SubA.p rfl) .nil)))⟩

theorem room_eq {n m : Nat} (h : n + m ≤ 8192) : (if (m : Int) < (if IntKind.i64.wrap (8192 - (n : Int)) > 0 then IntKind.i64.wrap (8192 - (n : Int)) else 0) then (m : Int) else (if IntKind.i64.wrap (8192 - (n : Int)) > 0 then IntKind.i64.wrap (8192 - (n : Int)) else 0)) = (m : Int) := by
  rw [wrap_id (by omega) (by omega)]
  split <;> split <;> omega
/-- Packets are sent. -/
theorem send15 (fl l : List PPacket) (hn : fl.length + l.length ≤ 8192) (hf : ∀ p, p ∈ l → p.msg.fits) : Con Try.prog 15 [.ptr 0 0 0, .p (.seq 15 (packRows l))] (netH 1 fl) (.p (iv l.length)) (netH 2 (fl ++ l)) := by
  refine Con.mk tabOk tabOne 10 Try.func15 rfl (by kernel_rfl) rfl ?_
  refine wpA_sound mixed tabOk tabOne _ _ _ ?_
  conv => whnf
  have hr := room_eq (m := l.length) hn
  rw [← packRows_length l] at hr
  refine ⟨⟨trivial, by rw [hr]; omega, by omega, by rw [hr]; omega⟩, ?_⟩
  conv => whnf
  refine Tri.loop (fun i : Nat => i ≤ l.length) (fun i => ⟨[(0, .ptr 0 0 0), (1, .p (.seq 15 (packRows l))), (21, .p (.seq 15 (packRows l))), (22, .p (iv l.length)), (23, .p (iv i))], [(0, some (.box 26 [.sl 10 0 (fl.length + i)])), (10, some (.arr 37 15 (up (packRows (fl ++ l.take i)))))], 100⟩) (fun i => l.length - i) 0 (Nat.zero_le _)
    (SLe.mk [(10, 1)] rfl ⟨SubT.ptr rfl rfl, SubT.p ?_, SubT.p ?_, SubT.p ?_, SubT.p rfl, trivial⟩ ⟨⟨_, rfl, netB rfl rfl rfl⟩, ⟨_, rfl, SubB.up_eq (by simp)⟩, trivial⟩) ?_
  · rw [hr]; simp only [List.drop_zero, Int.toNat_natCast, Nat.sub_zero, List.take_length]
  · rw [hr]; simp only [List.drop_zero, Int.toNat_natCast, Nat.sub_zero, List.take_length]
  · rw [hr]; simp
  intro i hi
  refine wpA_sound mixed tabOk tabOne _ _ _ ?_
  conv => whnf
  refine condB (fun h => ?_) (fun h => ?_)
  · have hlt : i < l.length := by simpa using h
    obtain ⟨x, hx⟩ : ∃ x, l[i]? = some x := ⟨_, List.getElem?_eq_getElem hlt⟩
    have hrow : (packRows l)[(i : Int).toNat]? = some x.cells := by simp [packRows, hx]
    conv => whnf
    refine ⟨⟨by omega, by simpa using hlt⟩, ?_⟩
    conv => whnf
    refine ⟨_, hrow, ?_⟩
    conv => whnf
    refine callP (copied60 x (hf x (List.mem_of_getElem? hx))) (.cons (SubA.selfa (r := x.cells)) .nil) ?_
    conv => whnf
    refine ⟨by simp, ?_⟩
    conv => whnf
    refine .inl ⟨⟨by simp [up]; omega, by simp [ti37]; omega⟩, ?_⟩
    conv => whnf
    refine ⟨by kernel_rfl, ?_⟩
    conv => whnf
    exact ⟨i + 1, by omega, by omega, SLe.mk [(10, 308)] rfl ⟨SubT.ptr rfl rfl, SubT.p rfl, SubT.p rfl, SubT.p rfl, SubT.p (by rw [wrap_succ (by omega)]), trivial⟩ ⟨⟨_, rfl, netB rfl rfl rfl⟩, ⟨_, rfl, arr_up (rows := up (packRows (fl ++ l.take i)) ++ [x.cells.map .p]) (by simp [up, packRows, List.take_add_one, hx])⟩, trivial⟩⟩
  · have hlt : i = l.length := by simp at h; omega
    subst hlt
    conv => whnf
    exact ⟨_, rfl, FinR.mk [(2, 10)] 100 rfl (SubT.p (by simp)) ⟨⟨_, rfl, netB rfl rfl (by simp)⟩, ⟨_, rfl, SubB.up_eq (by simp)⟩, trivial⟩⟩

theorem up_append (a b : List (List PV)) : up (a ++ b) = up a ++ up b := by simp [up]
end Go.Proofs.Am
