/-
  AB, part 17: what the printed proofs use: names for values, calls that own nothing, rows given away.
-/
import Derived.Test.YtpccmcepgllccaaAb16
namespace Go.AB
open Go

/-- a name for a value in a model -/
def letM {α β : Type} (e : α) (k : α → Option β) : Option β := k e
theorem letS {α β : Type} {e : α} {k : α → Option β} {r : β} (h : letM e k = some r) : ∃ y, y = e ∧ k y = some r := ⟨e, rfl, h⟩
theorem letM_eq {α β : Type} (e : α) (k : α → Option β) : letM e k = k e := rfl

theorem retJ {C : Ctx} {fn : Func} {s : St} {r : AV} {H : List (Nat × Blk)} (h : Res C fn s r H) : (Exit.ret = Exit.ret ∨ Exit.ret = Exit.normal) ∧ Res C fn s r H := ⟨.inl rfl, h⟩
theorem norJ {C : Ctx} {fn : Func} {s : St} {r : AV} {H : List (Nat × Blk)} (h : Res C fn s r H) : (Exit.normal = Exit.ret ∨ Exit.normal = Exit.normal) ∧ Res C fn s r H := ⟨.inr rfl, h⟩

theorem renL_id (v : AV) : AV.ren (fun t => t) v = v := by
  induction v using AV.rec (motive_2 := fun l => AV.renL (fun t => t) l = l) <;> simp_all [AV.ren, AV.renL]

theorem purgeEL_nil (E : List (Nat × AV)) : purgeEL [] E = E := by
  unfold purgeEL
  induction E with
  | nil => rfl
  | cons a l ih => rw [List.map_cons, ih]; rfl
theorem purgeHL_nil (H : List (Nat × Blk)) : purgeHL [] H = H := by
  unfold purgeHL
  induction H with
  | nil => rfl
  | cons a l ih =>
    rw [List.map_cons, ih]
    have : purgeBL [] a.2 = a.2 := by
      unfold purgeBL
      cases hl : a.2.lst with
      | true => rfl
      | false =>
        have h1 : purgeAL [] = id := by funext v; rfl
        obtain ⟨t, ty, l1, c⟩ := a
        simp only at hl
        subst hl
        simp only [cond_false, h1, List.map_id]
    rw [this]
theorem minusH_nil (H : List (Nat × Blk)) : minusH [] H = H := by
  induction H with
  | nil => rfl
  | cons a l ih => obtain ⟨t, k⟩ := a; simp only [minusH, List.any_nil, cond_false, ih]

/-- A call that takes no block and gives none. -/
theorem AStep.call0 {C : Ctx} {d : Nat} {ty : TypeId} {p : String} {e : Array Edge} {g : Option (Nat × Bool)} {s : St} {f : FuncId} {args : Array Operand} {ats : Array TypeId} {avs : List AV} {r : AV} {bw : Bool}
    (hd : d < C.N) (hS : Spec C.P f [] avs [] r []) (hargs : ArgL C s (fun t => t) [] bw args.toList avs) (hr : (r.tags.isEmpty && (!bw || r.clean)) = true) :
    AStep C ⟨some d, .call { callee := .value (.func f), args := args, argTypes := ats }, ty, p, e, g⟩ s (s.put d r) := by
  have ht : r.tags = [] := by
    have := andL hr
    simpa using this
  have ok : CallOk C s (fun t => t) bw [] [] r [] := by
    refine ⟨fun t k h => (by cases h), fun a b ha => (by cases ha), fun t h => (by cases h), fun t h => (by cases h), fun hb => ⟨?_, fun t k h => (by cases h)⟩,
      fun t h => (by rw [ht] at h; cases h), fun t k h => (by cases h)⟩
    have := andR hr
    rw [hb] at this
    simpa using this
  have key := AStep.call (ty := ty) (p := p) (e := e) (g := g) (ats := ats) hd hS hargs ok
  have he : s.called d (fun t => t) [] [] r [] = s.put d r := by
    show (⟨(d, r.ren fun t => t) :: purgeEL [] s.env, purgeHL [] (minusH [] s.heap)⟩ : St) = ⟨(d, r) :: s.env, s.heap⟩
    rw [purgeEL_nil, minusH_nil, purgeHL_nil, renL_id]
  rw [he] at key
  exact key

theorem frz_rd {α : Type} {enc : α → List AV} {sz : Nat} (henc : ∀ y, (enc y).length = sz) (xs : List α) (β : Bool) :
    AV.rd β xs.length (((xs.flatMap enc).drop 0).take (xs.length * sz)) = AV.rd β xs.length (xs.flatMap enc) := by rw [← lendAll henc xs]

theorem VC.slotEq {C : Ctx} {s : St} {d : Nat} {v v' : AV} (hd : look d s.env = some v) (h : v = v') : VC C s ⟨(d, v') :: s.env, s.heap⟩ := VC.slot hd fun _ _ _ _ hv => h ▸ hv

/-- An owned row is given away: what its slot holds is then only read. -/
theorem VC.frz {C : Ctx} {s : St} {α : Type} {enc : α → List AV} {d t sz : Nat} {E : TypeId} {xs : List α} (hk : look t s.heap = some ⟨E, true, xs.flatMap enc⟩) (hd : look d s.env = some (.own t sz 0 xs.length))
    (henc : ∀ y, (enc y).length = sz) : VC C s ⟨(d, .rd false xs.length (xs.flatMap enc)) :: frzE t (xs.flatMap enc) s.env, frzH t (xs.flatMap enc) s.heap⟩ := by
  refine (VC.freeze hk).trans (VC.slotEq (v := .rd false xs.length (((xs.flatMap enc).drop 0).take (xs.length * sz))) ?_ (frz_rd henc xs false))
  show look d (frzE t _ s.env) = _
  rw [look_frzE, hd]
  simp [frzA]

theorem VC.nilRd {C : Ctx} {s : St} {d : Nat} (β : Bool) (hd : look d s.env = some (.sc (.slice none 0 0))) : VC C s ⟨(d, .rd β 0 []) :: s.env, s.heap⟩ := VC.slot hd fun _ _ _ _ h => nil_rd h

/-- a reading that is not borrowed may count as borrowed -/
theorem VC.flagUp {C : Ctx} {s : St} {d n : Nat} {cs : List AV} (β : Bool) (hd : look d s.env = some (.rd false n cs)) : VC C s ⟨(d, .rd β n cs) :: s.env, s.heap⟩ := fun ι a w r => by
  refine ⟨ι, r.size, r.dfr, fun d' v' hl => ?_, r.core, r.stab⟩
  by_cases e : d' = d
  · subst e
    rw [look_cons_self] at hl
    cases hl
    have h := r.env d' _ hd
    have hz : ∀ b, zone C s.heap ι w false b → zone C s.heap ι w β b := by
      rintro b ⟨h1, h2, h3⟩
      refine ⟨h1, h2, ?_⟩
      rcases h3 with ⟨h, _⟩ | h
      · cases h
      · exact .inr h
    rcases rd_inv h with ⟨⟨a0, hu⟩, hn, hc⟩ | ⟨b, off, cap, vs, hu, hn, hc, hzz, hv, hr⟩
    · rw [hu, hn, hc]; exact .rdnil _ _ _ _
    · rw [hu]
      exact .rd _ _ β _ _ _ _ _ vs (fun hne => hz _ (hzz hne)) hn hc hv fun i hi => (hr i hi).mono (fun _ _ h => h) _ _ (fun _ b hb => hz b hb) (fun _ _ _ _ _ h => h) (fun _ _ _ h => h)
  · rw [look_cons_ne e] at hl
    exact r.env d' v' hl

/-- a row that is all of an owned block, lent to a callee -/
theorem Cv.lendRow {C : Ctx} {s : St} {σ : Nat → Nat} {H : List (Nat × Blk)} {α : Type} {enc : α → List AV} {t sz n : Nat} {E : TypeId} {xs : List α} (hk : look t s.heap = some ⟨E, true, xs.flatMap enc⟩)
    (ht : anyT ((dom H).map σ) t = false) (henc : ∀ y, (enc y).length = sz) (hn : n = xs.length) : Cv C s σ H true (.own t sz 0 n) (.rd true xs.length (xs.flatMap enc)) := by
  subst hn
  exact Cv.lend hk rfl (nm ht) (lendAll henc xs) (flatMap_length henc xs)

theorem enc8_wrap (n : Int) : enc8 (b8 (IntKind.wrap .u8 n)) = [.sc (.int .u8 (IntKind.wrap .u8 n))] := by simp [enc8, b8_wrap]
theorem enc8_at (c : UInt8) : enc8 c = [.sc (.int .u8 (c.toNat : Int))] := rfl
theorem scU8 (n : Int) : some (AV.sc (.int .u8 (IntKind.wrap .u8 n))) = some (AV.sc (.int .u8 ((b8 (IntKind.wrap .u8 n)).toNat : Int))) := by rw [b8_wrap]

/-- a bound value under a guard -/
theorem gdB {α : Type} {c : Bool} {o : Option α} {d y : α} (h : gdO c o d = some y) : c = true → o = some y := fun hc => gdS hc h
/-- an obligation under a guard -/
def asrtG {α : Type} (c : Bool) (p : Prop) [Decidable p] (k : Option α) : Option α := if c = true then asrt p k else k
theorem asrtGS {α : Type} {c : Bool} {p : Prop} [Decidable p] {k : Option α} {r : α} (h : asrtG c p k = some r) : (c = true → p) ∧ k = some r := by
  unfold asrtG at h
  by_cases hc : c = true
  · rw [if_pos hc] at h
    exact ⟨fun _ => (asrtS h).1, (asrtS h).2⟩
  · rw [if_neg hc] at h
    exact ⟨fun h => absurd h hc, h⟩
end Go.AB
