/-
  AB, part 33: a region whose order is open, where what turns the heap may come in several orders.
-/
import Derived.Test.YtpccmcepgllccaaAb32
namespace Go.AB
open Go

/-- who cannot come now: it has been, or one has been that waits for it, or one that it waits for has not -/
def badN (R : List (List Nat)) (T : List Nat) (i : Nat) (S : List Nat) : Bool := anyT S i || S.any (fun k => pre R k i) || T.any (fun k => !anyT S k && pre R i k)
def nextN (T : List Nat) (i : Nat) (S S' : List Nat) : Bool := T.all (fun k => anyT S' k == (Nat.beq k i || anyT S k)) && S'.all (anyT T)
abbrev DNode := List Nat × List (Nat × Blk)
inductive NStep (C : Ctx) (A : Array Oper) (F : List DFact) (R : List (List Nat)) (T : List Nat) (Ns : List DNode) (i : Nat) (o : Oper) (x : DOp) (n : DNode) : Prop
  | bad (h : badN R T i n.1 = true)
  | stay (hT : anyT T i = false) (h : DStep C A o (needOf F x.need) n.2 x.dv x.T n.2)
  | turn {n' : DNode} (q : Nat) (hq : Ns[q]? = some n') (hn : nextN T i n.1 n'.1 = true) (h : DStep C A o (needOf F x.need) n.2 x.dv x.T n'.2)
inductive NSteps (C : Ctx) (A : Array Oper) (F : List DFact) (R : List (List Nat)) (T : List Nat) (Ns : List DNode) : Nat → List Oper → List DOp → Prop
  | nil (i : Nat) : NSteps C A F R T Ns i [] []
  | pure {i : Nat} {o : Oper} {os : List Oper} {x : DOp} {xs : List DOp} (hc : anyT T i = false) (h : ∀ H, DStep C A o (needOf F x.need) H x.dv x.T H)
      (t : NSteps C A F R T Ns (i + 1) os xs) : NSteps C A F R T Ns i (o :: os) (x :: xs)
  | each {i : Nat} {o : Oper} {os : List Oper} {x : DOp} {xs : List DOp} (h : AllL (NStep C A F R T Ns i o x) Ns)
      (t : NSteps C A F R T Ns (i + 1) os xs) : NSteps C A F R T Ns i (o :: os) (x :: xs)
theorem NSteps.at {C : Ctx} {A : Array Oper} {F : List DFact} {R : List (List Nat)} {T : List Nat} {Ns : List DNode} : ∀ {os : List Oper} {xs : List DOp} {i : Nat}, NSteps C A F R T Ns i os xs →
    ∀ j o x, os[j]? = some o → xs[j]? = some x → ∀ n, n ∈ Ns → NStep C A F R T Ns (i + j) o x n
  | _, _, _, .nil i, j, o, x, ho, _, _, _ => by simp at ho
  | _, _, i, .pure hc h t, j, o, x, ho, hx, n, hn => by
    cases j with
    | zero => simp at ho hx; subst ho hx; exact .stay hc (h _)
    | succ j =>
      simp at ho hx
      have := t.at j o x ho hx n hn
      rw [show i + 1 + j = i + (j + 1) from by omega] at this
      exact this
  | _, _, i, .each h t, j, o, x, ho, hx, n, hn => by
    cases j with
    | zero => simp at ho hx; subst ho hx; exact h.mem hn
    | succ j =>
      simp at ho hx
      have := t.at j o x ho hx n hn
      rw [show i + 1 + j = i + (j + 1) from by omega] at this
      exact this
/-- blocks in another order -/
theorem DStep.looks {C : Ctx} {A : Array Oper} {o : Oper} {need : List (Nat × AV)} {H H' H2 : List (Nat × Blk)} {dv : Option (Nat × AV)} {T : List Nat} (h : DStep C A o need H dv T H')
    (hl : ∀ t, look t H2 = look t H') : DStep C A o need H dv T H2 := fun E hE => by
  obtain ⟨E', hos, h1, h2⟩ := h E hE
  refine ⟨E', fun ι a w K Q r hk => hos ι a w K Q r fun ι' a' w' r' => ?_, h1, h2⟩
  obtain ⟨ι2, r2⟩ := VC.looks (C := C) (s := ⟨E', H'⟩) (s' := ⟨E', H2⟩) (fun _ _ h => h) (fun t k h => by rw [← hl]; exact h) ι' a' w' r'
  exact hk ι2 a' w' r2

theorem looksOf {H H2 : List (Nat × Blk)} (h1 : SubH H2 H) (h2 : SubH H H2) : ∀ t, look t H2 = look t H := fun t => by
  cases h : look t H2 with
  | some v => exact (h1.look h).symm
  | none =>
    cases h' : look t H with
    | none => rfl
    | some v => rw [h2.look h'] at h; cases h

/-- what turns the heap may come in several orders: a heap for each set of those that have been -/
theorem AWP.drawN {C : Ctx} {Q : Exit → St → Prop} {s s' : St} {id : Nat} {l : List Oper} (hm : C.P.follows .mixedOrders = true) (F : List DFact) (D : List DOp) (T : List Nat) (Ns : List DNode)
    (R : List (List Nat)) (hR : rcheck R 0 l = true) (hchk : dcheck R F [] 0 l D = true) (hborn : BornOk D F) (hbase : BaseOk s.env F) (h0 : Ns[0]? = some ([], s.heap)) (hch : ∀ c, c ∈ T → c < l.length)
    (hsteps : NSteps C l.toArray F R T Ns 0 l D) (hE : ∀ E, DInv F (fun i => decide (i < l.length)) E → SubE s'.env E) (hH : AllL (fun n => T.all (anyT n.1) = true → n.2 = s'.heap) Ns) (hq : Q .normal s') : AWP C (.region id l.toArray true) Q s := by
  intro ι a w r
  obtain ⟨hDl, hD⟩ := dcheck_at hchk
  have hltp : ∀ i o, l[i]? = some o → ∀ j, j ∈ preds o → j < i := by
    intro i o ho j hj
    have hi : i < l.length := (List.getElem?_eq_some_iff.1 ho).1
    obtain ⟨x, hx⟩ : ∃ x, D[i]? = some x := ⟨D[i]'(by omega), List.getElem?_eq_getElem (by omega)⟩
    have hc1 := hD i o x ho hx
    simp only [Nat.zero_add, dcheck1, Bool.and_eq_true] at hc1
    have hp := hc1.1.1.1.1.1
    rw [List.all_eq_true] at hp
    have := hp j hj
    rwa [Nat.blt_eq] at this
  refine wpIn_region_any hm ?_
  let atN : Array Bool → List Nat → Prop := fun listed S => (∀ k, k ∈ S → k ∈ T) ∧ ∀ k, k ∈ T → anyT S k = listed.getD k false
  -- the invariant
  have key : ∀ (fuel : Nat) (listed : Array Bool) (ι : Tags) (a : Act) (w : World) (E : List (Nat × AV)) (S : List Nat) (H : List (Nat × Blk)),
      listed.size = l.length → (∀ i o, l[i]? = some o → listed.getD i false = true → ∀ j, j ∈ preds o → listed.getD j false = true) →
      ((List.range l.length).filter fun i => !listed.getD i false).length ≤ fuel → DInv F (fun i => listed.getD i false) E → atN listed S → (S, H) ∈ Ns →
      Rel C ⟨E, H⟩ ι a w → wpAnyIn (Fc C.r) 0 C.P .any l.toArray (fun e a' w' => ∃ s' ι', Rel C s' ι' a' w' ∧ Q e s') fuel listed a w := by
    intro fuel
    -- if nothing is ready all is done
    have fin : ∀ (listed : Array Bool) (ι : Tags) (a : Act) (w : World) (E : List (Nat × AV)) (S : List Nat) (H : List (Nat × Blk)), listed.size = l.length → DInv F (fun i => listed.getD i false) E →
        atN listed S → (S, H) ∈ Ns → Rel C ⟨E, H⟩ ι a w → Region.ready .any l.toArray listed = [] → ∃ s' ι', Rel C s' ι' a w ∧ Q .normal s' := by
      intro listed ι a w E S H hls hI hst hHc hr hready
      have hall : ∀ i, i < l.length → listed.getD i false = true := by
        intro i
        induction i using Nat.strongRecOn with
        | _ i ih =>
          intro hi
          apply Classical.byContradiction
          intro hn
          obtain ⟨o, ho⟩ : ∃ o, l[i]? = some o := ⟨l[i], List.getElem?_eq_getElem hi⟩
          obtain ⟨x, hx⟩ : ∃ x, D[i]? = some x := ⟨D[i]'(by omega), List.getElem?_eq_getElem (by omega)⟩
          have hc1 := hD i o x ho hx
          simp only [Nat.zero_add, dcheck1, Bool.and_eq_true] at hc1
          have hp := hc1.1.1.1.1.1
          rw [List.all_eq_true] at hp
          have hmem : i ∈ Region.ready .any l.toArray listed := by
            unfold Region.ready
            refine List.mem_filter.2 ⟨by simpa using hi, ?_⟩
            have e1 : listed.getD i true = false := by
              have hi' : i < listed.size := by omega
              simp only [Array.getD_eq_getD_getElem?, Array.getElem?_eq_getElem hi', Option.getD_some] at hn ⊢
              simpa using hn
            simp only [e1, Bool.not_false, Bool.true_and, List.getElem?_toArray, ho, Option.map_some, Option.getD_some]
            rw [Array.all_eq_true']
            intro ed hed
            cases hb : Region.binds .any ed with
            | false => rfl
            | true =>
              have hm : ed.on ∈ preds o := by
                unfold preds
                exact List.mem_map.2 ⟨ed, List.mem_filter.2 ⟨Array.mem_toList_iff.2 hed, hb⟩, rfl⟩
              have hlt := hp _ hm
              rw [Nat.blt_eq] at hlt
              simp [ih _ hlt (by omega)]
          rw [hready] at hmem; cases hmem
      have hI' : DInv F (fun i => decide (i < l.length)) E := by
        intro f hf h1 h2
        refine hI f hf (fun j hj => hall j (by simpa using h1 j hj)) (fun k hk => ?_)
        have := h2 k hk
        simp only [decide_eq_false_iff_not, Nat.not_lt] at this
        have hk' : listed.size ≤ k := by omega
        simp [Array.getD_eq_getD_getElem?, Array.getElem?_eq_none hk']
      have hc : H = s'.heap := by
        refine hH.mem hHc ?_
        rw [List.all_eq_true]
        intro k hk
        show anyT S k = true
        rw [hst.2 k hk]
        exact hall k (hch k hk)
      subst hc
      exact ⟨s', ι, hr.weak (s' := s') (fun _ => Iff.rfl) (fun d v hl => .inr ((hE E hI').look hl)) (fun t k hk => ⟨k, hk, rfl, rfl, .inl rfl⟩), hq⟩
    have readyAt : ∀ (listed : Array Bool) i, i ∈ Region.ready .any l.toArray listed → i < l.length ∧ listed.getD i true = false ∧ ∀ o, l[i]? = some o → ∀ j, j ∈ preds o → listed.getD j false = true := by
      intro listed i hi
      obtain ⟨h1, h2⟩ := List.mem_filter.1 hi
      have hlt : i < l.length := by simpa using h1
      simp only [Bool.and_eq_true, Bool.not_eq_true'] at h2
      refine ⟨hlt, h2.1, fun o ho j hj => ?_⟩
      have h3 := h2.2
      simp only [List.getElem?_toArray, ho, Option.map_some, Option.getD_some] at h3
      rw [Array.all_eq_true'] at h3
      obtain ⟨ed, hed, rfl⟩ := List.mem_map.1 hj
      obtain ⟨q1, q2⟩ := List.mem_filter.1 hed
      have h4 := h3 ed (Array.mem_toList_iff.1 q1)
      simpa [q2] using h4
    induction fuel with
    | zero =>
      intro listed ι a w E S H hls hdc hn hI hst hHc hr
      have hready : Region.ready .any l.toArray listed = [] := by
        apply Classical.byContradiction
        intro hne
        obtain ⟨i, hi⟩ := List.exists_mem_of_ne_nil _ hne
        obtain ⟨h1, h2, _⟩ := readyAt listed i hi
        have hf : listed.getD i false = false := by
          have hi' : i < listed.size := by omega
          simp only [Array.getD_eq_getD_getElem?, Array.getElem?_eq_getElem hi', Option.getD_some] at h2 ⊢
          exact h2
        have : i ∈ (List.range l.length).filter fun i => !listed.getD i false := List.mem_filter.2 ⟨by simpa using h1, by simp [hf]⟩
        have := List.length_pos_of_mem this
        omega
      exact ⟨hready, fin listed ι a w E S H hls hI hst hHc hr hready⟩
    | succ fuel ih =>
      intro listed ι a w E S H hls hdc hn hI hst hHc hr
      refine ⟨fun hready => fin listed ι a w E S H hls hI hst hHc hr hready, fun i hi => ?_⟩
      obtain ⟨hlt, h2, h3⟩ := readyAt listed i hi
      have hi' : i < listed.size := by omega
      have hf : listed.getD i false = false := by
        simp only [Array.getD_eq_getD_getElem?, Array.getElem?_eq_getElem hi', Option.getD_some] at h2 ⊢
        exact h2
      obtain ⟨o, ho⟩ : ∃ o, l[i]? = some o := ⟨l[i], List.getElem?_eq_getElem hlt⟩
      obtain ⟨x, hx⟩ : ∃ x, D[i]? = some x := ⟨D[i]'(by omega), List.getElem?_eq_getElem (by omega)⟩
      have hc1 := hD i o x ho hx
      simp only [Nat.zero_add, dcheck1, Bool.and_eq_true] at hc1
      obtain ⟨⟨⟨⟨⟨p1, p2⟩, p3⟩, _⟩, _⟩, _⟩ := hc1
      have hpre0 := h3 o ho
      have hpre : ∀ j, pre R i j = true → listed.getD j false = true := pre_listed (L := fun j => listed.getD j false) hR hltp hdc i hlt h3
      -- an operation that waits for this one has not been
      have hbef : ∀ k, pre R k i = true → listed.getD k false = false := by
        intro k hk
        apply Classical.byContradiction
        intro hn
        have hn' : listed.getD k false = true := by simpa using hn
        have hkl : k < l.length := by
          apply Classical.byContradiction
          intro hge
          have : listed.size ≤ k := by omega
          rw [Array.getD_eq_getD_getElem?, Array.getElem?_eq_none this] at hn'
          cases hn'
        have := pre_listed (L := fun j => listed.getD j false) hR hltp hdc k hkl (fun ok hok j hj => hdc k ok hok hn' j hj) i hk
        rw [hf] at this; cases this
      have hneed : Need (needOf F x.need) E := by
        refine needOf_Need fun n hn f hfn => ?_
        rw [List.all_eq_true] at p2
        have h5 := p2 n hn
        rw [hfn] at h5
        simp only [Bool.and_eq_true] at h5
        refine hI f (List.mem_of_getElem? hfn) (fun j hj => ?_) (fun k hk => ?_)
        · rw [hj] at h5; exact hpre j h5.1
        · have h6 := h5.2
          rw [List.all_eq_true] at h6
          have h7 := h6 k hk
          simp only [Bool.or_eq_true, Nat.beq_eq] at h7
          rcases h7 with h7 | h7
          · subst h7; exact hf
          · exact hbef k h7
      have hL' : ∀ j, (listed.setIfInBounds i true).getD j false = if j = i then true else listed.getD j false := by
        intro j
        simp only [Array.getD_eq_getD_getElem?, Array.getElem?_setIfInBounds]
        by_cases e1 : j = i
        · subst e1; simp [hi']
        · rw [if_neg (fun h => e1 h.symm), if_neg e1]
      have next : ∀ E' H' S' ι' a' w', (∀ d v, x.dv = some (d, v) → look d E' = some v) → (∀ y v, (∀ d v', x.dv = some (d, v') → y ≠ d) → look y E = some v → freeOf x.T v = true → look y E' = some v) →
          atN (listed.setIfInBounds i true) S' → (S', H') ∈ Ns → Rel C ⟨E', H'⟩ ι' a' w' →
          wpAnyIn (Fc C.r) 0 C.P .any l.toArray (fun e a' w' => ∃ s' ι', Rel C s' ι' a' w' ∧ Q e s') fuel (listed.setIfInBounds i true) a' w' := by
        intro E' H' S' ι' a' w' hd hkeep hst' hH' hr'
        refine ih _ ι' a' w' E' S' H' (by simpa using hls) (fun k ok hk hk' j hj => ?_) ?_ ?_ hst' hH' hr'
        · rw [hL'] at hk' ⊢
          by_cases e1 : j = i
          · rw [if_pos e1]
          · rw [if_neg e1]
            by_cases e2 : k = i
            · subst e2; rw [ho] at hk; cases hk; exact hpre0 j hj
            · rw [if_neg e2] at hk'; exact hdc k ok hk hk' j hj
        · have hlt2 : ((List.range l.length).filter fun j => !(listed.setIfInBounds i true).getD j false).length < ((List.range l.length).filter fun j => !listed.getD j false).length := by
            have hmem : i ∈ (List.range l.length).filter fun j => !listed.getD j false := List.mem_filter.2 ⟨by simpa using hlt, by simp only [hf]; rfl⟩
            have hsub : ((List.range l.length).filter fun j => !(listed.setIfInBounds i true).getD j false) = (((List.range l.length).filter fun j => !listed.getD j false).filter fun j => !decide (j = i)) := by
              rw [List.filter_filter]
              refine List.filter_congr fun j _ => ?_
              rw [hL']
              by_cases e1 : j = i
              · simp [e1]
              · simp [e1]
            rw [hsub]
            refine Nat.lt_of_le_of_ne (List.length_filter_le _ _) fun he => ?_
            have := (List.length_filter_eq_length_iff.1 he) i hmem
            simp at this
          omega
        · intro f hfF hb1 hb2
          rw [List.all_eq_true] at p3
          have h5 := p3 f hfF
          simp only [Bool.or_eq_true, Bool.and_eq_true] at h5
          rcases h5 with (h5 | h5) | ⟨h5, h6⟩
          · have h7 : (listed.setIfInBounds i true).getD i false = false := hb2 i (anyT_iff.1 h5)
            rw [hL', if_pos rfl] at h7; cases h7
          · cases hb : f.born with
            | none => rw [hb] at h5; cases h5
            | some j =>
              rw [hb] at h5
              simp only [Bool.or_eq_true, Nat.beq_eq] at h5
              rcases h5 with h5 | h5
              · subst h5
                obtain ⟨x', hx', hdv⟩ := hborn.at hfF j hb
                rw [hx] at hx'; cases hx'
                exact hd _ _ hdv
              · exfalso
                have h7 : (listed.setIfInBounds i true).getD j false = true := hb1 j hb
                rw [hL'] at h7
                by_cases e1 : j = i
                · subst e1
                  have := hpre j h5
                  rw [hf] at this; cases this
                · rw [if_neg e1, hbef j h5] at h7; cases h7
          · by_cases hbi : f.born = some i
            · obtain ⟨x', hx', hdv⟩ := hborn.at hfF i hbi
              rw [hx] at hx'; cases hx'
              exact hd _ _ hdv
            · refine hkeep _ _ (fun d v' hdv e1 => ?_) (hI f hfF (fun j hj => ?_) (fun k hk => ?_)) h6
              · rw [hdv] at h5
                simp only [Bool.not_eq_true'] at h5
                rw [e1] at h5
                rw [Nat.beq_refl] at h5; cases h5
              · have h7 : (listed.setIfInBounds i true).getD j false = true := hb1 j hj
                rw [hL', if_neg (fun e => hbi (by rw [hj, e]))] at h7
                exact h7
              · have h7 : (listed.setIfInBounds i true).getD k false = false := hb2 k hk
                rw [hL'] at h7
                split at h7
                · cases h7
                · exact h7
      have hop : ∀ (K : Act → World → Prop) E' H', OStep C l.toArray o ⟨E, H⟩ ⟨E', H'⟩ → (∀ ι' a' w', Rel C ⟨E', H'⟩ ι' a' w' → K a' w') →
          wpOpIn (Fc C.r) 0 C.P l.toArray (fun e a' w' => ∃ s' ι', Rel C s' ι' a' w' ∧ Q e s') i K a w := by
        intro K E' H' hos hK
        unfold wpOpIn
        simp only [List.getElem?_toArray, ho]
        exact hos ι a w K _ hr hK
      have hS := hsteps.at i o x ho hx (S, H) hHc
      rw [Nat.zero_add] at hS
      cases hS with
      | bad hb =>
        exfalso
        simp only [badN, Bool.or_eq_true] at hb
        rcases hb with (hb | hb) | hb
        · have := hst.1 i (anyT_iff.1 hb)
          have h6 := hst.2 i this
          rw [hb, hf] at h6; cases h6
        · rw [List.any_eq_true] at hb
          obtain ⟨k, hk, hki⟩ := hb
          have h6 := hst.2 k (hst.1 k hk)
          rw [hbef k hki, anyT_iff.2 hk] at h6; cases h6
        · rw [List.any_eq_true] at hb
          obtain ⟨k, hk, hki⟩ := hb
          simp only [Bool.and_eq_true, Bool.not_eq_true'] at hki
          have h6 := hst.2 k hk
          rw [hki.1, hpre k hki.2] at h6; cases h6
      | stay hT hds =>
        obtain ⟨E', hos, hd, hkeep⟩ := hds E hneed
        refine hop _ E' H hos fun ι' a' w' hr' => next E' H S ι' a' w' hd hkeep ⟨hst.1, fun k hk => ?_⟩ hHc hr'
        rw [hL', if_neg (fun e1 => by subst e1; rw [anyT_iff.2 hk] at hT; cases hT)]
        exact hst.2 k hk
      | turn q hq' hn' hds =>
        rename_i n'
        obtain ⟨S', H'⟩ := n'
        obtain ⟨E', hos, hd, hkeep⟩ := hds E hneed
        simp only [nextN, Bool.and_eq_true] at hn'
        obtain ⟨h6, h7⟩ := hn'
        rw [List.all_eq_true] at h6 h7
        refine hop _ E' H' hos fun ι' a' w' hr' => next E' H' S' ι' a' w' hd hkeep ⟨fun k hk => anyT_iff.1 (h7 k hk), fun k hk => ?_⟩ (List.mem_of_getElem? hq') hr'
        have h8 := h6 k hk
        rw [beq_iff_eq] at h8
        rw [h8, hL']
        by_cases e1 : k = i
        · subst e1; simp
        · rw [if_neg e1, beq_ne e1, Bool.false_or]
          exact hst.2 k hk
  refine key l.length (Array.replicate l.length false) ι a _ s.env [] s.heap (by simp) (fun i o _ h => ?_) ?_ ?_ ⟨fun k hk => absurd hk (by simp), fun k _ => ?_⟩ (List.mem_of_getElem? h0) r.drew
  · exfalso
    simp only [Array.getD_eq_getD_getElem?, Array.getElem?_replicate] at h
    split at h <;> simp at h
  · exact Nat.le_trans (List.length_filter_le _ _) (by simp)
  · intro f hf hb _
    refine hbase.at hf ?_
    cases hb' : f.born with
    | none => rfl
    | some j =>
      have := hb j hb'
      simp only [Array.getD_eq_getD_getElem?, Array.getElem?_replicate] at this
      split at this <;> simp at this
  · show anyT [] k = (Array.replicate l.length false).getD k false
    simp only [Array.getD_eq_getD_getElem?, Array.getElem?_replicate]
    split <;> simp [anyT]
end Go.AB
