import Derived.Test.YtffbjmipkffgkaaLi
namespace Go.AB
open Go

theorem codBool : Cod eBool (fun _ => True) pBool := by
  refine ⟨fun v u _ => ?_, fun t v k h => ?_⟩
  · cases v <;> rfl
  · match t with
    | [] => cases h
    | c :: r =>
      rw [pBool] at h
      split at h
      · rename_i hc
        have := Option.some.inj h
        simp only [Prod.mk.injEq] at this
        obtain ⟨rfl, rfl⟩ := this
        have h2 : c.toNat = 0 ∨ c.toNat = 1 := by omega
        refine ⟨trivial, ?_, r, ?_⟩
        · rcases h2 with h2 | h2
          · rw [show c = 0 from UInt8.toNat_inj.1 h2]; rfl
          · rw [show c = 1 from UInt8.toNat_inj.1 h2]; rfl
        · rcases h2 with h2 | h2
          · rw [show c = 0 from UInt8.toNat_inj.1 h2]; rfl
          · rw [show c = 1 from UInt8.toNat_inj.1 h2]; rfl
      · cases h
theorem eBool_len (v : Bool) : (eBool v).length = 1 := by cases v <;> rfl
/-- reading what was written at a place -/
theorem rdAt {α : Type} {e : α → List UInt8} {ok : α → Prop} {p : List UInt8 → Option (α × Nat)} {z : α} {m : List UInt8 → Int → Bool → Option (α × List UInt8 × Int × Bool)} (h : Cod e ok p) (hr : Rd m z p) {b u : List UInt8} {i : Nat} {v : α} (hd : b.drop i = e v ++ u) (hv : ok v) (hi : i ≤ b.length) (hb : b.length ≤ 100000) :
    m b ((i : Nat) : Int) false = some (v, b, ((i + (e v).length : Nat) : Int), false) ∧ b.drop (i + (e v).length) = u ∧ i + (e v).length ≤ b.length := by
  have h1 := hr b i false hi hb
  rw [RS_some (by rw [hd]; exact h.rt v u hv)] at h1
  refine ⟨h1, ?_, ?_⟩
  · rw [← List.drop_drop, hd, List.drop_left' rfl]
  · have := congrArg List.length hd
    rw [List.length_drop, List.length_append] at this
    omega
theorem m33_val {n : Nat} {l : List (List UInt8)} (hn : l.length < n) (h64 : l.length ≤ 9223372036854775807) : ∃ c, m33 n l = some c ∧ (c = true → l.length ≤ 40 ∧ ∀ t, t ∈ l → t.length ≤ 200) := by
  unfold m33 jn
  refine loopM_ind (fun i x => ∃ j : Nat, j ≤ l.length ∧ i = l.length - j ∧ x = (j : Int) ∧ ∀ r, r ∈ l.take j → r.length ≤ 200) (fun o => ∃ c, o = some c ∧ (c = true → l.length ≤ 40 ∧ ∀ t, t ∈ l → t.length ≤ 200)) ?_ n l.length _ ⟨0, Nat.zero_le _, rfl, rfl, by simp⟩ hn
  rintro i x ⟨j, hj, rfl, rfl, ht⟩
  rcases Nat.lt_or_ge j l.length with h1 | h1
  · by_cases hq : l[j].length ≤ 200
    · refine .inl ⟨l.length - (j + 1), ((j + 1 : Nat) : Int), by omega, ⟨j + 1, h1, rfl, rfl, fun r hr => ?_⟩, fun nx => ?_⟩
      · rw [List.take_succ_eq_append_getElem h1, List.mem_append] at hr
        rcases hr with hr | hr
        · exact ht r hr
        · rw [List.mem_singleton] at hr
          rw [hr]; exact hq
      · rw [m33_L1, if_pos (by simp; omega), getIdx_at rfl h1, Option.bind_some, if_neg (by simp; omega), letM_eq, wrap64 (by omega) (by omega)]
        rfl
    · refine .inr ⟨some false, ⟨false, rfl, fun h => absurd h (by simp)⟩, fun nx => ?_⟩
      rw [m33_L1, if_pos (by simp; omega), getIdx_at rfl h1, Option.bind_some, if_pos (by simp; omega)]
  · have : j = l.length := by omega
    subst this
    refine .inr ⟨_, ⟨_, rfl, fun h => ?_⟩, fun nx => by rw [m33_L1, if_neg (by simp)]⟩
    rw [List.take_length] at ht
    exact ⟨by simp at h; omega, ht⟩

/-- the pairs of integers and booleans -/
def ev (v : Int) : Bool := decide (v.tmod (2 : Int) = (0 : Int))
def eP (v : Int) : List UInt8 := eInt v ++ eBool (ev v)
theorem eP_len (v : Int) : (eP v).length ≤ 10 := by
  have := wd_le v
  rw [eP, List.length_append, eInt_len, eBool_len]; omega
def vecs (l : List Int) : List R59 := l.mapIdx fun i v => R59.mk v (i : Int)
theorem flat_take {α : Type} {e : α → List UInt8} {l : List α} {j : Nat} (h : j ≤ l.length) : ((l.take j).flatMap e).length ≤ (l.flatMap e).length := by
  have : (l.flatMap e).length = ((l.take j).flatMap e).length + ((l.drop j).flatMap e).length := by
    conv => lhs; rw [← List.take_append_drop j l]
    rw [List.flatMap_append, List.length_append]
  omega
theorem vecs_take {l : List Int} {j : Nat} (h : j < l.length) : vecs (l.take (j + 1)) = vecs (l.take j) ++ [R59.mk l[j] (j : Int)] := by
  rw [List.take_succ_eq_append_getElem h, vecs, List.mapIdx_append]
  simp [vecs]
  omega
theorem m8_l1 {n : Nat} {a0 : List Int} {b : List UInt8} (hn : 70 < n) (hi : ∀ v, v ∈ a0 → inR v) (hl : a0.length ≤ 60) (hb : b.length ≤ 1000) (k : (List UInt8) × (List R59) → Option Bool) : loopM (m8_L1 n a0 k) n ((0 : Int), b, ([] : List R59)) = k (b ++ a0.flatMap eP, vecs a0) := by
  have hf : (a0.flatMap eP).length ≤ a0.length * 10 := flat_le fun y _ => eP_len y
  refine loopM_ind (fun i x => ∃ j : Nat, j ≤ a0.length ∧ i = a0.length - j ∧ x = ((j : Int), b ++ (a0.take j).flatMap eP, vecs (a0.take j))) (fun o => o = k (b ++ a0.flatMap eP, vecs a0)) ?_ n a0.length _ ⟨0, Nat.zero_le _, rfl, by simp [vecs]⟩ (by omega)
  rintro i x ⟨j, hj, rfl, rfl⟩
  have ht := flat_take (e := eP) hj
  rcases Nat.lt_or_ge j a0.length with h1 | h1
  · refine .inl ⟨a0.length - (j + 1), (((j + 1 : Nat) : Int), b ++ (a0.take (j + 1)).flatMap eP, vecs (a0.take (j + 1))), by omega, ⟨j + 1, h1, rfl, rfl⟩, fun nx => ?_⟩
    have hw := wd_le a0[j]
    have hv : (vecs (a0.take j)).length ≤ 60 := by simp [vecs]; omega
    rw [m8_L1, if_pos (by simp; omega)]
    dsimp only
    rw [getIdx_at rfl h1, Option.bind_some, m12o_val (hi _ (List.getElem_mem h1)) (by rw [List.length_append]; omega) (by omega), Option.bind_some, Option.bind_some,
      m34o_val (by rw [List.length_append, List.length_append, eInt_len]; omega), Option.bind_some, Option.bind_some, apd_val (by rw [List.length_singleton]; omega), Option.bind_some, letM_eq, wrap64 (by omega) (by omega), vecs_take h1, List.take_succ_eq_append_getElem h1, List.flatMap_append]
    have e : [a0[j]].flatMap eP = eInt a0[j] ++ eBool (decide (a0[j].tmod 2 = 0)) := by simp [eP, ev]
    rw [e, List.append_assoc, List.append_assoc]
    rfl
  · refine .inr ⟨_, rfl, fun nx => ?_⟩
    have : j = a0.length := by omega
    subst this
    rw [m8_L1, if_neg (by simp), List.take_length]
def eT (t : List UInt8) : List UInt8 := eBytes t ++ eBytes t
theorem m8_l2 {n : Nat} {a1 : List (List UInt8)} {b : List UInt8} (hn : 70 < n) (hi : ∀ t, t ∈ a1 → t.length ≤ 200) (hl : a1.length ≤ 40) (hb : b.length ≤ 10000) (k : List UInt8 → Option Bool) : loopM (m8_L2 n a1 k) n ((0 : Int), b) = k (b ++ a1.flatMap eT) := by
  have hf : (a1.flatMap eT).length ≤ a1.length * 418 := flat_le fun y hy => by
    have := (eBytes_len y).2
    have := hi y hy
    rw [eT, List.length_append]; omega
  refine loopM_ind (fun i x => ∃ j : Nat, j ≤ a1.length ∧ i = a1.length - j ∧ x = ((j : Int), b ++ (a1.take j).flatMap eT)) (fun o => o = k (b ++ a1.flatMap eT)) ?_ n a1.length _ ⟨0, Nat.zero_le _, rfl, by simp⟩ (by omega)
  rintro i x ⟨j, hj, rfl, rfl⟩
  have ht := flat_take (e := eT) hj
  rcases Nat.lt_or_ge j a1.length with h1 | h1
  · refine .inl ⟨a1.length - (j + 1), (((j + 1 : Nat) : Int), b ++ (a1.take (j + 1)).flatMap eT), by omega, ⟨j + 1, h1, rfl, rfl⟩, fun nx => ?_⟩
    have hw := hi _ (List.getElem_mem h1)
    have he := (eBytes_len a1[j]).2
    rw [m8_L2, if_pos (by simp; omega)]
    dsimp only
    rw [getIdx_at rfl h1, Option.bind_some, m13ox1_val (by omega) (by rw [List.length_append]; omega) (by omega), Option.bind_some, Option.bind_some, asrt_pos (by omega), m35o_val (by omega) (by rw [List.length_append, List.length_append]; omega) (by omega), Option.bind_some, letM_eq, wrap64 (by omega) (by omega), List.take_succ_eq_append_getElem h1, List.flatMap_append]
    have e : [a1[j]].flatMap eT = eBytes a1[j] ++ eBytes a1[j] := by simp [eT]
    rw [e, List.append_assoc, List.append_assoc]
    rfl
  · refine .inr ⟨_, rfl, fun nx => ?_⟩
    have : j = a1.length := by omega
    subst this
    rw [m8_L2, if_neg (by simp), List.take_length]
theorem m8_l3 {n : Nat} {a0 : List Int} {b u : List UInt8} {i0 : Nat} (hn : 70 < n) (hi : ∀ v, v ∈ a0 → inR v) (hl : a0.length ≤ 60) (hb : b.length ≤ 100000) (h0 : i0 ≤ b.length) (hd : b.drop i0 = a0.flatMap eP ++ u) (k : (List UInt8) × Int × Bool → Option Bool) :
    loopM (m8_L3 n a0 k) n ((0 : Int), b, (i0 : Int), false) = k (b, ((i0 + (a0.flatMap eP).length : Nat) : Int), false) := by
  refine loopM_ind (fun i x => ∃ j : Nat, j ≤ a0.length ∧ i = a0.length - j ∧ x = ((j : Int), b, ((i0 + ((a0.take j).flatMap eP).length : Nat) : Int), false) ∧ i0 + ((a0.take j).flatMap eP).length ≤ b.length ∧ b.drop (i0 + ((a0.take j).flatMap eP).length) = (a0.drop j).flatMap eP ++ u) (fun o => o = k (b, ((i0 + (a0.flatMap eP).length : Nat) : Int), false)) ?_ n a0.length _ ⟨0, Nat.zero_le _, rfl, rfl, by simpa using h0, by simpa using hd⟩ (by omega)
  rintro i x ⟨j, hj, rfl, rfl, q1, q2⟩
  rcases Nat.lt_or_ge j a0.length with h1 | h1
  · rw [List.drop_eq_getElem_cons h1, List.flatMap_cons, eP, List.append_assoc, List.append_assoc] at q2
    have hv := hi _ (List.getElem_mem h1)
    obtain ⟨r1, r2, r3⟩ := rdAt (codBnd a0[j] a0[j]) (rBnd (n := n) (by omega) a0[j] a0[j]) q2 ⟨hv, Int.le_refl _, Int.le_refl _⟩ q1 hb
    obtain ⟨s1, s2, s3⟩ := rdAt codBool (rBool n) r2 trivial r3 hb
    have e : ((a0.take (j + 1)).flatMap eP).length = ((a0.take j).flatMap eP).length + (eInt a0[j]).length + (eBool (ev a0[j])).length := by
      rw [List.take_succ_eq_append_getElem h1, List.flatMap_append, List.length_append]
      simp [eP]
      omega
    refine .inl ⟨a0.length - (j + 1), (((j + 1 : Nat) : Int), b, ((i0 + ((a0.take (j + 1)).flatMap eP).length : Nat) : Int), false), by omega, ⟨j + 1, h1, rfl, rfl, by omega, by rw [e, ← s2]; congr 1; omega⟩, fun nx => ?_⟩
    rw [m8_L3, if_pos (by simp; omega)]
    unfold jn
    dsimp only at r1 ⊢
    rw [getIdx_at rfl h1, Option.bind_some, Option.bind_some, r1, Option.bind_some, Option.bind_some, if_pos (by simp), s1, Option.bind_some, Option.bind_some]
    dsimp only
    rw [if_neg (by simp [ev]), letM_eq, wrap64 (by omega) (by omega), e]
    congr 4
    omega
  · refine .inr ⟨_, rfl, fun nx => ?_⟩
    have : j = a0.length := by omega
    subst this
    rw [m8_L3, if_neg (by simp), List.take_length]
theorem m8_l4 {n : Nat} {a1 : List (List UInt8)} {b u : List UInt8} {i0 : Nat} (hn : 70 < n) (hi : ∀ t, t ∈ a1 → t.length ≤ 200) (hl : a1.length ≤ 40) (hb : b.length ≤ 100000) (h0 : i0 ≤ b.length) (hd : b.drop i0 = a1.flatMap eT ++ u) (k : (List UInt8) × Int × Bool → Option Bool) :
    loopM (m8_L4 n a1 k) n ((0 : Int), b, (i0 : Int), false) = k (b, ((i0 + (a1.flatMap eT).length : Nat) : Int), false) := by
  refine loopM_ind (fun i x => ∃ j : Nat, j ≤ a1.length ∧ i = a1.length - j ∧ x = ((j : Int), b, ((i0 + ((a1.take j).flatMap eT).length : Nat) : Int), false) ∧ i0 + ((a1.take j).flatMap eT).length ≤ b.length ∧ b.drop (i0 + ((a1.take j).flatMap eT).length) = (a1.drop j).flatMap eT ++ u) (fun o => o = k (b, ((i0 + (a1.flatMap eT).length : Nat) : Int), false)) ?_ n a1.length _ ⟨0, Nat.zero_le _, rfl, rfl, by simpa using h0, by simpa using hd⟩ (by omega)
  rintro i x ⟨j, hj, rfl, rfl, q1, q2⟩
  rcases Nat.lt_or_ge j a1.length with h1 | h1
  · rw [List.drop_eq_getElem_cons h1, List.flatMap_cons, eT, List.append_assoc, List.append_assoc] at q2
    have hv := hi _ (List.getElem_mem h1)
    obtain ⟨r1, r2, r3⟩ := rdAt (codBytes (a1[j].length : Int) (by omega)) (rText (n := n) (by omega) (a1[j].length : Int)) q2 (Int.le_refl _) q1 hb
    obtain ⟨s1, s2, s3⟩ := rdAt (codBytes 200 (by decide)) (rBytes (n := n) (by omega) 200) r2 (by omega) r3 hb
    have e : ((a1.take (j + 1)).flatMap eT).length = ((a1.take j).flatMap eT).length + (eBytes a1[j]).length + (eBytes a1[j]).length := by
      rw [List.take_succ_eq_append_getElem h1, List.flatMap_append, List.length_append]
      simp [eT]
      omega
    refine .inl ⟨a1.length - (j + 1), (((j + 1 : Nat) : Int), b, ((i0 + ((a1.take (j + 1)).flatMap eT).length : Nat) : Int), false), by omega, ⟨j + 1, h1, rfl, rfl, by omega, by rw [e, ← s2]; congr 1; omega⟩, fun nx => ?_⟩
    rw [m8_L4, if_pos (by simp; omega)]
    unfold jn
    dsimp only at r1 s1 ⊢
    rw [getIdx_at rfl h1, Option.bind_some, r1, Option.bind_some, Option.bind_some, if_pos (by simp), s1, Option.bind_some, Option.bind_some]
    dsimp only
    rw [if_neg (by simp), letM_eq, wrap64 (by omega) (by omega), e]
    congr 4
    omega
  · refine .inr ⟨_, rfl, fun nx => ?_⟩
    have : j = a1.length := by omega
    subst this
    rw [m8_L4, if_neg (by simp), List.take_length]
end Go.AB
