import Derived.Test.YtpccmcepgllccaaGreatLt
import Derived.Test.YtpccmcepgllccaaGreatLg
set_option linter.unusedVariables false
namespace Go.AB
open Go
theorem val_most {l : List R63} {o : List Int} : val l o true = match o.length with | 0 => 0 | k + 1 => mx (lat l o) k := by
  unfold val
  rw [foldN_congr (g := fun i n => if i = 0 ∨ n < lat l o i then lat l o i else n) fun i hi s => by rw [if_pos rfl]]
  cases o.length with
  | zero => rfl
  | succ k => exact foldN_mx k
theorem lat_le_val {l : List R63} {o : List Int} {m : Nat} (hm : m < o.length) : lat l o m ≤ val l o true := by
  rw [val_most]
  obtain ⟨k,hk⟩ : ∃ k,o.length = k + 1 := ⟨o.length - 1,by omega⟩
  rw [hk]
  exact le_mx (by omega)
theorem span_late {l : List R63} {o : List Int} (hp : ∀ y,y ∈ l → 1 ≤ y.Ln) (h : comp l o) {i k : Nat} : ∀ m,m ≤ o.length →
    sumN (fun q => if within l i k (o.getD q 0).toNat = true then (Jn l (o.getD q 0).toNat).Ln else 0) m = 0 ∨
      ∃ q,q < m ∧ within l i k (o.getD q 0).toNat = true ∧ (Jn l i).Rl + sumN (fun q => if within l i k (o.getD q 0).toNat = true then (Jn l (o.getD q 0).toNat).Ln else 0) m ≤ (fin l 0 o).getD q 0 := by
  have hpo : ∀ x,x ∈ o → 0 ≤ (J l x).Ln := fun x hx => by
    have h1 := (ord_iff.1 h.1).2 x hx
    have := hp _ (J_mem h1.1 h1.2)
    omega
  intro m
  induction m with
  | zero => exact fun _ => .inl rfl
  | succ m ih =>
    intro hm
    have hmo : m < o.length := by omega
    have hx := (ord_iff.1 h.1).2 _ (getD_mem hmo)
    obtain ⟨x,hxe⟩ : ∃ x : Nat,o.getD m 0 = (x : Int) := ⟨(o.getD m 0).toNat,by omega⟩
    have hfr := fin_rel hpo hmo
    rw [hxe,J_nat] at hfr
    rw [sumN,hxe,Int.toNat_natCast]
    by_cases w : within l i k x = true
    · rw [if_pos w]
      right
      have w1 : (Jn l i).Rl ≤ (Jn l x).Rl := by
        unfold within at w
        simp only [Bool.and_eq_true,decide_eq_true_eq] at w
        exact w.1
      refine ⟨m,by omega,by rw [hxe,Int.toNat_natCast]; exact w,?_⟩
      rcases ih (by omega) with h0 | ⟨q,hq,hw,hle⟩
      · rw [h0]; omega
      · have := fin_asc l o 0 q m hpo hq hmo
        rw [hxe,J_nat] at this
        omega
    · rw [if_neg w,Int.add_zero]
      rcases ih (by omega) with h0 | ⟨q,hq,hw,hle⟩
      · exact .inl h0
      · exact .inr ⟨q,by omega,hw,hle⟩
theorem par_late {l : List R63} {o : List Int} (hb : bd l) (hp : ∀ y,y ∈ l → 1 ≤ y.Ln) (h : comp l o) : par l 1 ≤ val l o true := by
  rcases Nat.eq_zero_or_pos l.length with h0 | h0
  · have e : l = [] := List.eq_nil_of_length_eq_zero h0
    subst e
    have e2 : o = [] := List.eq_nil_of_length_eq_zero h.2
    subst e2
    exact Int.le_refl _
  · obtain ⟨⟨i,k,hi,hk,hs,e⟩,_⟩ := par_is hb hp h0 1
    have e1 : spanSum l i k = sumN (fun q => if within l i k (o.getD q 0).toNat = true then (Jn l (o.getD q 0).toNat).Ln else 0) l.length := by
      have := sum_order h (fun x => if within l i k x.toNat = true then (Jn l x.toNat).Ln else 0)
      simp only [Int.toNat_natCast] at this
      exact this
    rcases span_late hp h (i := i) (k := k) o.length (Nat.le_refl _) with hz | ⟨q,hq,hw,hle⟩
    · rw [h.2,← e1] at hz
      omega
    · rw [h.2,← e1] at hle
      refine Int.le_trans ?_ (lat_le_val hq)
      rw [e]
      unfold spanBd lat
      have hx := (ord_iff.1 h.1).2 _ (getD_mem hq)
      have ex : J l (o.getD q 0) = Jn l (o.getD q 0).toNat := by rw [← J_nat,Int.toNat_of_nonneg hx.1]
      have w2 : (Jn l (o.getD q 0).toNat).Due ≤ (Jn l k).Due := by
        unfold within at hw
        simp only [Bool.and_eq_true,decide_eq_true_eq] at hw
        exact hw.2
      rw [ex,show spanSum l i k + 1 - 1 = spanSum l i k from by omega,Int.tdiv_one]
      omega
end Go.AB
