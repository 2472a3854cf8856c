import Derived.Test.YtpccmcepgllccaaLf
set_option linter.unusedVariables false
namespace Go.AB
open Go

/-- the order that follows choices -/
theorem free_loop {n : Nat} {q : Int × List Int} {t : Int} {K : Bool → Option (List Int)} (h : q.2.length < n) (hl : q.2.length ≤ 100000) : loopM (m17_L13 n q t K) n (true, (0 : Int)) = K (decide (¬ t ∈ q.2)) := by
  refine (loop_fold (S := Bool) (fun i b => (b, (i : Int))) q.2.length (fun i b => b && !decide (q.2.getD i 0 = t)) (fun _ _ => True) K ?_ ?_ (s0 := true) trivial h).trans ?_
  · intro i b hi _
    refine ⟨trivial, fun nx => ?_⟩
    rw [m17_L13, if_pos (by simp; omega)]
    dsimp only
    rw [get_getD (d := 0) hi, Option.bind_some, letM_eq, wrap64 (by omega) (by omega)]
    rfl
  · intro b _ nx
    rw [m17_L13, if_neg (by simp)]
  · congr 1
    rw [foldN_all (g := fun b x => b && !decide (x = t))]
    have : ∀ (l : List Int) (b : Bool), l.foldl (fun b x => b && !decide (x = t)) b = (b && decide (¬ t ∈ l)) := by
      intro l
      induction l with
      | nil => intro b; simp
      | cons x l ih =>
        intro b
        rw [List.foldl_cons, ih, Bool.and_assoc]
        congr 1
        rw [Bool.eq_iff_iff]
        simp only [Bool.and_eq_true, Bool.not_eq_true', decide_eq_false_iff_not, decide_eq_true_eq, List.mem_cons, not_or]
        constructor
        · rintro ⟨h1, h2⟩; exact ⟨fun e => h1 e.symm, h2⟩
        · rintro ⟨h1, h2⟩; exact ⟨fun e => h1 e.symm, h2⟩
    rw [this, Bool.true_and]
theorem m17_val {n : Nat} {l : List R38} {done : List Int} {ch : List UInt8} (hd : ordB l.length done = true) (hl : l.length ≤ 1000) (hn : 2000 < n) (hdl : done.length ≤ l.length) :
    ∃ o, m17 n l done ch = some o ∧ comp l o ∧ done <+: o := by
  unfold m17 jn
  rw [apd_val (by simp; omega), Option.bind_some, List.nil_append]
  dsimp only
  refine loopM_ind (fun m x => ∃ (i : Nat) (out : List Int), x = ((i : Int), out) ∧ m = l.length - out.length ∧ out.length ≤ l.length ∧ i + done.length = out.length ∧ ordB l.length out = true ∧ done <+: out) (fun r => ∃ o, r = some o ∧ comp l o ∧ done <+: o) ?_ n (l.length - done.length) _
    ⟨0, done, rfl, rfl, hdl, by omega, hd, List.prefix_refl _⟩ (by omega)
  rintro m x ⟨i, out, rfl, rfl, hol, hi, ho, hp⟩
  rcases Nat.lt_or_ge out.length l.length with h1 | h1
  · have inner : ∀ (p : Nat), p < 256 → ∃ v : Nat, v < l.length ∧ ¬ (v : Int) ∈ out ∧ ∀ K : List Int → Option (List Int), loopM (m17_L12 n l ((i : Int), out) (p : Int) K) n (0 : Int) = K (out ++ [(v : Int)]) := by
      intro p hp
      have at_ : ∀ j : Nat, j < l.length → (IntKind.wrap .i64 ((p : Int) + (j : Int))).tmod (l.length : Int) = (((p + j) % l.length : Nat) : Int) := by
        intro j hj
        rw [wrap64 (by omega) (by omega), show (p : Int) + (j : Int) = ((p + j : Nat) : Int) from by omega, tmod_nat]
      obtain ⟨v, hv, hvm⟩ := free_ex h1
      -- the first free one
      have ex : ∃ j, j < l.length ∧ ¬ (((p + j) % l.length : Nat) : Int) ∈ out := by
        refine ⟨(v + (l.length - p % l.length)) % l.length, Nat.mod_lt _ (by omega), ?_⟩
        have : (p + (v + (l.length - p % l.length)) % l.length) % l.length = v := by
          have h2 : p % l.length < l.length := Nat.mod_lt _ (by omega)
          rw [Nat.add_mod, Nat.mod_mod, ← Nat.add_mod, show p + (v + (l.length - p % l.length)) = v + (l.length + (p - p % l.length)) from by have := Nat.mod_le p l.length; omega]
          have h3 : l.length ∣ (p - p % l.length) := Nat.dvd_sub_mod p
          obtain ⟨c, hc⟩ := h3
          rw [hc, show v + (l.length + l.length * c) = v + l.length * (c + 1) from by rw [Nat.mul_add, Nat.mul_one]; omega, Nat.add_mul_mod_self_left, Nat.mod_eq_of_lt hv]
        rw [this]; exact hvm
      have least : ∃ j, j < l.length ∧ ¬ (((p + j) % l.length : Nat) : Int) ∈ out ∧ ∀ j', j' < j → (((p + j') % l.length : Nat) : Int) ∈ out := by
        obtain ⟨j, hj, hjm⟩ := ex
        induction j using Nat.strongRecOn with
        | _ j ih =>
          by_cases h : ∃ j', j' < j ∧ ¬ (((p + j') % l.length : Nat) : Int) ∈ out
          · obtain ⟨j', h2, h3⟩ := h
            exact ih j' h2 (by omega) h3
          · exact ⟨j, hj, hjm, fun j' hj' => Classical.byContradiction fun hh => h ⟨j', hj', hh⟩⟩
      obtain ⟨j, hj, hjm, hjl⟩ := least
      refine ⟨(p + j) % l.length, Nat.mod_lt _ (by omega), hjm, fun K => ?_⟩
      refine loop_findP (fun i => (i : Int)) l.length (fun j => decide (¬ (((p + j) % l.length : Nat) : Int) ∈ out)) (fun j => K (out ++ [(((p + j) % l.length : Nat) : Int)])) (K out) (fun r => r = K (out ++ [(((p + j) % l.length : Nat) : Int)])) ?_ ?_ ?_ (by omega) (fun j' h2 h3 h4 => ?_) fun h2 => ?_
      · intro j' hj' hq nx
        rw [m17_L12, if_pos (by simp; omega)]
        unfold asrt jn
        rw [if_pos (by omega)]
        dsimp only
        rw [letM_eq, at_ j' hj', free_loop (by dsimp only; omega) (by dsimp only; omega)]
        dsimp only
        rw [hq, if_neg (by simp), letM_eq, wrap64 (by omega) (by omega)]
        rfl
      · intro j' hj' hq nx
        rw [m17_L12, if_pos (by simp; omega)]
        unfold asrt jn
        rw [if_pos (by omega)]
        dsimp only
        rw [letM_eq, at_ j' hj', free_loop (by dsimp only; omega) (by dsimp only; omega)]
        dsimp only
        rw [hq, if_pos rfl, apd_val (by simp; omega), Option.bind_some]
      · intro nx
        rw [m17_L12, if_neg (by simp)]
      · have : j' = j := by
          rcases Nat.lt_or_ge j' j with h5 | h5
          · have := of_decide_eq_true h3
            exact absurd (hjl j' h5) this
          · rcases Nat.lt_or_ge j j' with h6 | h6
            · have := h4 j h6
              rw [decide_eq_false_iff_not] at this
              exact absurd hjm this
            · omega
        rw [this]
      · have := h2 j hj
        rw [decide_eq_false_iff_not] at this
        exact absurd hjm this
    obtain ⟨p, hpb, hpe⟩ : ∃ p : Nat, p < 256 ∧ ∀ (K : Int → Option (List Int)), (if (decide ((i : Int) < (ch.length : Int))) = true then ((getIdx ch (i : Int)).bind fun y_124 => (letM ((IntKind.wrap .i64 (y_124.toNat : Int))) fun t9_125 => (K t9_125))) else (K (0 : Int))) = K (p : Int) := by
      rcases Nat.lt_or_ge i ch.length with h2 | h2
      · refine ⟨ch[i].toNat, UInt8.toNat_lt _, fun K => ?_⟩
        have := UInt8.toNat_lt ch[i]
        rw [if_pos (by simp; omega), getIdx_at rfl h2, Option.bind_some, letM_eq, wrap64 (by omega) (by omega)]
      · exact ⟨0, by omega, fun K => by rw [if_neg (by simp; omega)]; rfl⟩
    obtain ⟨v, hv, hvm, hin⟩ := inner p hpb
    refine .inl ⟨l.length - (out.length + 1), (((i + 1 : Nat) : Int), out ++ [(v : Int)]), by omega, ⟨i + 1, _, rfl, by simp, by simp; omega, by simp; omega, ord_snoc ho hv hvm, hp.trans (List.prefix_append _ _)⟩, fun nx => ?_⟩
    rw [m17_L9, if_pos (by simp; omega)]
    unfold jn
    dsimp only
    refine (hpe _).trans ?_
    rw [hin, letM_eq, wrap64 (by omega) (by omega)]
    rfl
  · refine .inr ⟨_, ⟨out, rfl, ⟨ho, by omega⟩, hp⟩, fun nx => ?_⟩
    rw [m17_L9, if_neg (by simp; omega)]
theorem m12_val {n : Nat} {l : List R38} {most : Bool} (hn : 1000 < n) :
    m12 n l most = some (if vld l = true then (if l.length ≤ 7 then (srch l most l.length [] [], val l (srch l most l.length [] []) most, 0) else ([], 0, 9)) else ([], 0, 1)) := by
  unfold m12
  rw [m28_val (by omega), Option.bind_some]
  by_cases hv : vld l = true
  · rw [hv, if_neg (by simp), if_pos rfl]
    by_cases h : l.length ≤ 7
    · rw [if_neg (by simp; omega), if_pos h, m40_val hv hn]
      rfl
    · rw [if_pos (by simp; omega), if_neg h]
  · rw [(Bool.not_eq_true _).mp hv]; rfl
theorem m18_val {n : Nat} {l : List R38} {most : Bool} (hn : 1000 < n) (hl : l.length ≤ 7) :
    m18 n l most = some (if vld l = true then (srch l most l.length [] [], val l (srch l most l.length [] []) most, 0) else ([], 0, 1)) := by
  unfold m18 m42
  rw [m14_val (by omega) (by omega), Option.bind_some]
  by_cases hv : vld l = true
  · have h1 := srch_okB (l := l) (most := most) l.length [] [] (by simp) (by simp [ordB]) ⟨by simp [ordB], by simp⟩
    rw [hv, if_neg (by simp), if_pos rfl, if_neg (by simp; omega), m42F_val hv hn l.length [] [] n (by simp) (by simp [ordB]) ⟨by simp [ordB], by simp⟩ (by omega), Option.bind_some, m16_val (by omega) (by have := h1.2; omega) (by have := h1.2; omega) (by omega), if_pos ⟨hv, h1.1⟩]
    rfl
  · rw [(Bool.not_eq_true _).mp hv]; rfl
theorem m3_gen {n : Nat} {l : List R38} {most : Bool} {ch : List UInt8} (h10 : m10 n = some true) (hn : 2000 < n) : m3 n l most ch = some true := by
  unfold m3
  rw [h10, Option.bind_some, show (!(!true)) = true from rfl, gdO_true, m11, Option.bind_some]
  by_cases h : l.length ≤ 10
  · rw [decide_eq_true (show (l.length : Int) ≤ 10 from by omega), if_neg (by simp), m13_val (by omega) (by omega), Option.bind_some, m12_val (by omega), Option.bind_some, m14_val (by omega) (by omega), Option.bind_some]
    by_cases hv : vld l = true
    · rw [hv, if_neg (by simp), if_pos rfl]
      by_cases h7 : l.length ≤ 7
      · rw [if_neg (by simp; omega), if_pos h7]
        obtain ⟨q1, _, q3⟩ := srch_min (l := l) (most := most) l.length [] [] (by simp) (by simp [ordB]) (.inl rfl)
        have hs := q1.2
        have hso := q1.1
        obtain ⟨o, e, hc, _⟩ := m17_val (n := n) (l := l) (done := []) (ch := ch) (by simp [ordB]) (by omega) hn (by simp)
        have hm := q3 o hc (List.nil_prefix)
        have hol := hc.2
        have h18 := m18_val (n := n) (l := l) (most := most) (by omega) h7
        generalize srch l most l.length [] [] = b at *
        dsimp only
        rw [decide_eq_true (show (0 : Int) = 0 from rfl), decide_eq_true (show (b.length : Int) = (l.length : Int) from by omega)]
        rw [show (!((!true) || (!true))) = true from rfl, gdO_true, m15_val (by omega) (by omega), Option.bind_some, hso]
        rw [show (!(((!true) || (!true)) || (!true))) = true from rfl, gdO_true, m16_val (by omega) (by omega) (by omega) (by omega), if_pos ⟨hv, hso⟩, Option.bind_some]
        rw [decide_eq_true (show val l b most = val l b most from rfl)]
        rw [show (!((((!true) || (!true)) || (!true)) || (!true))) = true from rfl, gdO_true, e, Option.bind_some, gdO_true, m16_val (by omega) (by omega) (by omega) (by omega), if_pos ⟨hv, hc.1⟩, Option.bind_some, letM_eq]
        rw [decide_eq_false (show ¬ val l o most < val l b most from by omega), if_neg (by simp)]
        by_cases h5 : l.length ≤ 5
        · rw [if_neg (by simp; omega), h18, hv, if_pos rfl, Option.bind_some]
          dsimp only
          rw [decide_eq_true (show (0 : Int) = 0 from rfl), decide_eq_true (show val l b most = val l b most from rfl), show (true && true) = true from rfl, gdO_true, m19_self (by omega) (by omega), Option.bind_some]
          rfl
        · rw [if_pos (by simp; omega)]
      · rw [if_pos (by simp; omega), if_neg h7]
        rfl
    · rw [(Bool.not_eq_true _).mp hv]
      rfl
  · rw [decide_eq_false (show ¬ (l.length : Int) ≤ 10 from by omega)]
    rfl
theorem m3_true (l : List R38) (most : Bool) (ch : List UInt8) : m3 5000 l most ch = some true := m3_gen (by kernel_rfl) (by decide)
end Go.AB
