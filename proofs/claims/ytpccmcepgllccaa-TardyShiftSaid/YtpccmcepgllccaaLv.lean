import Derived.Test.YtpccmcepgllccaaLt
import Derived.Test.YtpccmcepgllccaaLg
set_option linter.unusedVariables false
namespace Go.AB
open Go

/-- all times later by c -/
def shift (c : Int) (l : List R38) : List R38 := l.map fun y => R38.mk (y.Release + c) y.Length (y.Due + c)
theorem shift_len (c : Int) (l : List R38) : (shift c l).length = l.length := by simp [shift]
theorem shift_at {c : Int} {l : List R38} {j : Nat} (hj : j < l.length) : Jn (shift c l) j = R38.mk ((Jn l j).Release + c) (Jn l j).Length ((Jn l j).Due + c) := by
  simp [Jn, shift, hj]
theorem shift_J {c : Int} {l : List R38} {x : Int} (h0 : 0 ≤ x) (h1 : x < (l.length : Int)) : J (shift c l) x = R38.mk ((J l x).Release + c) (J l x).Length ((J l x).Due + c) := by
  obtain ⟨j, rfl⟩ : ∃ j : Nat, x = (j : Int) := ⟨x.toNat, by omega⟩
  rw [J_nat, J_nat, shift_at (by omega)]
theorem fin_shift {c : Int} {l : List R38} : ∀ (o : List Int) (t : Int), inR l.length o → fin (shift c l) (t + c) o = (fin l t o).map (· + c)
  | [], _, _ => rfl
  | x :: o, t, h => by
    have hx := h x (by simp)
    have e : max (t + c) (J (shift c l) x).Release + (J (shift c l) x).Length = max t (J l x).Release + (J l x).Length + c := by
      rw [shift_J hx.1 hx.2]
      dsimp only
      rw [Int.max_def, Int.max_def]
      split <;> split <;> omega
    rw [fin, fin, e, List.map_cons, fin_shift o _ fun y hy => h y (by simp [hy])]
theorem fin_shift0 {c : Int} {l : List R38} (hc : 0 ≤ c) (hr : ∀ y, y ∈ l → 0 ≤ y.Release) {o : List Int} (ho : inR l.length o) : fin (shift c l) 0 o = (fin l 0 o).map (· + c) := by
  rw [← fin_shift o 0 ho]
  match o, ho with
  | [], _ => rfl
  | x :: o, ho =>
    have hx := ho x (by simp)
    have := hr _ (J_mem hx.1 hx.2)
    have e : max 0 (J (shift c l) x).Release = max (0 + c) (J (shift c l) x).Release := by
      rw [shift_J hx.1 hx.2]
      dsimp only
      rw [Int.max_def, Int.max_def]
      split <;> split <;> omega
    rw [fin, fin, e]
theorem lat_shift {c : Int} {l : List R38} (hc : 0 ≤ c) (hr : ∀ y, y ∈ l → 0 ≤ y.Release) {o : List Int} (ho : inR l.length o) {m : Nat} (hm : m < o.length) : lat (shift c l) o m = lat l o m := by
  have hx := ho _ (getD_mem hm)
  unfold lat
  rw [fin_shift0 hc hr ho, shift_J hx.1 hx.2]
  have hl : m < (fin l 0 o).length := by rw [fin_len]; exact hm
  have : ((fin l 0 o).map (· + c)).getD m 0 = (fin l 0 o).getD m 0 + c := by
    rw [List.getD_eq_getElem?_getD, List.getElem?_map, List.getD_eq_getElem?_getD, List.getElem?_eq_getElem hl]; rfl
  rw [this]
  dsimp only
  omega
theorem val_shift {c : Int} {l : List R38} (hc : 0 ≤ c) (hr : ∀ y, y ∈ l → 0 ≤ y.Release) {o : List Int} (ho : inR l.length o) (most : Bool) : val (shift c l) o most = val l o most := by
  unfold val
  exact foldN_congr fun i hi s => by rw [lat_shift hc hr ho hi]
theorem srch_shift {c : Int} {l : List R38} (hc : 0 ≤ c) (hr : ∀ y, y ∈ l → 0 ≤ y.Release) {most : Bool} : ∀ (d : Nat) (now best : List Int), now.length + d = l.length → ordB l.length now = true → okB l best → srch (shift c l) most d now best = srch l most d now best
  | 0, now, best, h, h1, h2 => by
    rw [srch, srch, val_shift hc hr (ord_iff.1 h1).2, val_shift hc hr (ord_iff.1 h2.1).2]
  | d + 1, now, best, h, h1, h2 => by
    rw [srch, srch, shift_len]
    have : ∀ k, k ≤ l.length → foldN (fun i b => if (i : Int) ∈ now then b else srch (shift c l) most d (now ++ [(i : Int)]) b) k best = foldN (fun i b => if (i : Int) ∈ now then b else srch l most d (now ++ [(i : Int)]) b) k best ∧ okB l (foldN (fun i b => if (i : Int) ∈ now then b else srch l most d (now ++ [(i : Int)]) b) k best) := by
      intro k
      induction k with
      | zero => exact fun _ => ⟨rfl, h2⟩
      | succ k ih =>
        intro hk
        obtain ⟨e, hok⟩ := ih (by omega)
        rw [foldN, foldN, e]
        by_cases hm : (k : Int) ∈ now
        · rw [if_pos hm, if_pos hm]; exact ⟨rfl, hok⟩
        · rw [if_neg hm, if_neg hm]
          refine ⟨srch_shift hc hr d _ _ (by simp; omega) (ord_snoc h1 hk hm) hok, srch_okB d _ _ (by simp; omega) (ord_snoc h1 hk hm) hok⟩
    exact (this _ (Nat.le_refl _)).1
theorem span_shift {c : Int} {l : List R38} {i k : Nat} (hi : i < l.length) (hk : k < l.length) : spanSum (shift c l) i k = spanSum l i k := by
  unfold spanSum
  rw [shift_len]
  refine sumN_congr fun j hj => ?_
  have : within (shift c l) i k j = within l i k j := by
    unfold within
    rw [shift_at hi, shift_at hj, shift_at hk]
    dsimp only
    congr 1
    · apply decide_eq_decide.2; omega
    · apply decide_eq_decide.2; omega
  rw [this, shift_at hj]
theorem par_shift {c : Int} {l : List R38} (m : Int) : par (shift c l) m = par l m := by
  unfold par
  rw [shift_len]
  rw [foldN_congr fun i hi s => foldN_congr fun k hk s => ?_]
  unfold parStep
  have : spanBd (shift c l) m i k = spanBd l m i k := by
    unfold spanBd
    rw [span_shift hi hk, shift_at hi, shift_at hk]
    dsimp only
    omega
  rw [span_shift hi hk, this]
theorem isrN_shift (c : Int) (d : List Int) : isr ltN [] (d.map (· + c)) = (isr ltN [] d).map (· + c) := by
  have h1 := isrN_facts (d.map (· + c))
  have h2 := isrN_facts d
  refine sortedI_eq (h1.1.trans (h2.1.map _).symm) h1.2 ?_
  rw [List.pairwise_map]
  exact h2.2.imp fun h => by omega
theorem sumB_shift {c : Int} {l : List R38} (hb : bd l) {o : List Int} (hol : o.length = l.length) : sumB (shift c l) (o.map (· + c)) = sumB l o := by
  unfold sumB
  rw [shift_len]
  refine sumN_congr fun k hk => ?_
  have e : dues (shift c l) = (dues l).map (· + c) := by simp [dues, shift]
  rw [e, isrN_shift]
  have hl := (ds_facts l hb).1
  have e1 : (o.map (· + c)).getD k 0 = o.getD k 0 + c := by
    rw [List.getD_eq_getElem?_getD, List.getElem?_map, List.getD_eq_getElem?_getD, List.getElem?_eq_getElem (by omega)]; rfl
  have e2 : ((isr ltN [] (dues l)).map (· + c)).getD k 0 = (isr ltN [] (dues l)).getD k 0 + c := by
    rw [List.getD_eq_getElem?_getD, List.getElem?_map, List.getD_eq_getElem?_getD, List.getElem?_eq_getElem (by omega)]; rfl
  rw [e1, e2]
  congr 1
  omega
theorem lens_shift (c : Int) (l : List R38) : lens (shift c l) = lens l := by simp [lens, shift]
theorem later_shift (c : Int) (l : List R38) : later c l (shift c l) := ⟨shift_len c l, fun j hj => by rw [shift_at hj]⟩
/-- the shortest rest, later -/
theorem runs_shift {c : Int} {l : List R38} (hc : 0 ≤ c) (hr0 : ∀ y, y ∈ l → 0 ≤ y.Release) (hp : ∀ y, y ∈ l → 1 ≤ y.Length) {o : List Int} (h : Runs l 0 (lens l) [] o) : Runs (shift c l) 0 (lens (shift c l)) [] (o.map (· + c)) := by
  have h1 := h.later (later_shift c l)
  rw [lens_shift]
  refine Runs.ahead (c := 0 + c) (by omega) (fun j hj => ?_) (fun j hj => ?_) h1
  · rw [shift_len] at hj
    rw [shift_at hj]
    have := hr0 _ (Jn_mem hj)
    dsimp only
    omega
  · rw [shift_len] at hj
    rw [lens_at hj]
    have := hp _ (Jn_mem hj)
    omega
theorem m24_val {n : Nat} {l : List R38} {o : List Int} (hv : vld l = true) (ho : ordB l.length o = true) (hl : o.length ≤ 1000) (hn : 1000 < n) : m24 n l o = some (val l o true, 0) := by
  unfold m24
  rw [m44_val (by omega) (by omega) (by omega), Option.bind_some, if_pos hv, if_pos ho, if_neg (by simp), m46_val (bd_vld hv).1 (ord_iff.1 ho).2 (by omega) (by omega)]
  rfl
theorem m26_val {n : Nat} {l : List R38} {o : List Int} (hv : vld l = true) (ho : ordB l.length o = true) (hl : o.length ≤ 1000) (hn : 1000 < n) : m26 n l o = some (val l o false, 0) := by
  unfold m26
  rw [m44_val (by omega) (by omega) (by omega), Option.bind_some, if_pos hv, if_pos ho, if_neg (by simp), m46_val (bd_vld hv).1 (ord_iff.1 ho).2 (by omega) (by omega)]
  rfl
/-! TardyShift -/
theorem m6_gen {n : Nat} {l : List R38} {c : Int} {ch : List UInt8} (h10 : m10 n = some true) (hn : 6000 < n) (hc : 0 ≤ c ∧ c ≤ 65535) : m6 n l c ch = some true := by
  unfold m6
  rw [h10, Option.bind_some]
  by_cases h : l.length ≤ 6
  · rw [decide_eq_false (show ¬ (6 : Int) < (l.length : Int) from by omega), show (!((!true) || false)) = true from rfl, gdO_true, m14_val (by omega) (by omega), Option.bind_some]
    by_cases hv : vld l = true
    · have hb := (bd_vld hv).1
      have hp := vld_pos' hv
      have hr0 : ∀ y, y ∈ l → 0 ≤ y.Release := fun y hy => (hb y hy).1
      rw [hv, if_neg (by simp)]
      unfold jn
      dsimp only
      have hshift : ∀ K : List R38 → Option Bool, loopM (m6_L1 n l c K) n ((0 : Int), ([] : List R38)) = K (shift c l) := by
        intro K
        refine (loop_fold (S := List R38) (fun i s => ((i : Int), s)) l.length (fun i s => s ++ [R38.mk ((Jn l i).Release + c) (Jn l i).Length ((Jn l i).Due + c)]) (fun i s => s.length = i) K ?_ ?_ rfl (by omega)).trans ?_
        · intro i s hi hs
          have hbi := hb _ (Jn_mem hi)
          refine ⟨by simp [hs], fun nx => ?_⟩
          rw [m6_L1, if_pos (by simp; omega)]
          dsimp only
          rw [Jn_get hi, Option.bind_some, wrap64 (x := c) (by omega) (by omega), wrap64 (x := (Jn l i).Release + c) (by omega) (by omega), wrap64 (x := (Jn l i).Due + c) (by omega) (by omega), apd_val (by simp; omega), Option.bind_some, letM_eq, wrap64 (by omega) (by omega)]
          rfl
        · intro s hs nx
          rw [m6_L1, if_neg (by simp)]
        · congr 1
          have : ∀ k, k ≤ l.length → foldN (fun i (s : List R38) => s ++ [R38.mk ((Jn l i).Release + c) (Jn l i).Length ((Jn l i).Due + c)]) k [] = (shift c l).take k := by
            intro k
            induction k with
            | zero => intro _; simp [foldN]
            | succ k ih =>
              intro hk
              rw [foldN, ih (by omega), List.take_succ_eq_append_getElem (by rw [shift_len]; omega)]
              simp [shift, Jn, show k < l.length from by omega]
          rw [this _ (Nat.le_refl _), List.take_of_length_le (by rw [shift_len]; omega)]
      refine (hshift _).trans ?_
      rw [m28_val (by omega), Option.bind_some]
      by_cases hv' : vld (shift c l) = true
      · have hb' := (bd_vld hv').1
        rw [hv', if_neg (by simp)]
        obtain ⟨o, eo, hco, _⟩ := m17_val (n := n) (l := l) (done := []) (ch := ch) (by simp [ordB]) (by omega) (by omega) (by simp)
        have hol := hco.2
        have ho' : ordB (shift c l).length o = true := by rw [shift_len]; exact hco.1
        obtain ⟨out, e29, e50, hr, hout⟩ := (m29_val (n := n) (l := l) (by omega) hn).1 hv
        obtain ⟨out', e29', e50', hr', hout'⟩ := (m29_val (n := n) (l := shift c l) (by rw [shift_len]; omega) hn).1 hv'
        have eout := hr'.uniq (runs_shift hc.1 hr0 hp hr)
        have hsum : sumB (shift c l) out' = sumB l out := by rw [eout]; exact sumB_shift hb hout
        have hs : srch (shift c l) false (shift c l).length [] [] = srch l false l.length [] [] := by
          rw [shift_len]
          exact srch_shift hc.1 hr0 l.length [] [] (by simp) (by simp [ordB]) ⟨by simp [ordB], by simp⟩
        have hso := srch_okB (l := l) (most := false) l.length [] [] (by simp) (by simp [ordB]) ⟨by simp [ordB], by simp⟩
        have hsl := hso.2
        rw [eo, Option.bind_some, m13_val (by omega) (by omega), Option.bind_some, m24_val hv hco.1 (by omega) (by omega), Option.bind_some, m24_val hv' ho' (by omega) (by omega), Option.bind_some, Option.bind_some, m26_val hv hco.1 (by omega) (by omega), Option.bind_some, m26_val hv' ho' (by omega) (by omega), Option.bind_some, Option.bind_some, m20_val (by omega), hv, if_pos rfl, Option.bind_some, m20_val (by omega), hv', if_pos rfl, Option.bind_some, Option.bind_some, e29, Option.bind_some, e29', Option.bind_some, Option.bind_some]
        rw [m12_val (by omega), if_pos hv, if_pos (by omega), Option.bind_some, m12_val (by omega), if_pos hv', if_pos (by rw [shift_len]; omega), Option.bind_some, hs, val_shift hc.1 hr0 (ord_iff.1 hso.1).2, val_shift hc.1 hr0 (ord_iff.1 hco.1).2, val_shift hc.1 hr0 (ord_iff.1 hco.1).2, par_shift, hsum]
        generalize srch l false l.length [] [] = b at hsl ⊢
        dsimp only
        rw [show (((((((decide (val l o true = val l o true)) && (decide (val l o false = val l o false))) && (decide (par l 1 = par l 1))) && (decide (sumB l out = sumB l out))) && (decide (val l b false = val l b false))) && (decide ((0 : Int) = 0))) && (decide ((0 : Int) = 0))) = true from by simp, gdO_true, m19_self (by omega) (by omega), Option.bind_some, letM_eq]
        simp
      · rw [(Bool.not_eq_true _).mp hv']
        refine (if_pos (by rfl)).trans ?_
        have : 0 < c := by
          apply Classical.byContradiction
          intro hcc
          have e : c = 0 := by omega
          subst e
          refine hv' ?_
          have : shift 0 l = l := by simp [shift]
          rw [this]; exact hv
        rw [decide_eq_true this]
    · rw [(Bool.not_eq_true _).mp hv]
      rfl
  · rw [decide_eq_true (show (6 : Int) < (l.length : Int) from by omega)]
    rfl
theorem m6_true (l : List R38) (c : Int) (ch : List UInt8) (hc : (Lit.int .u16 c).wf = true) : m6 7000 l c ch = some true := by
  have : 0 ≤ c ∧ c ≤ 65535 := by
    simp [Lit.wf, IntKind.min, IntKind.max, IntKind.signed, IntKind.bits] at hc
    omega
  exact m6_gen m10_7 (by decide) this
end Go.AB
