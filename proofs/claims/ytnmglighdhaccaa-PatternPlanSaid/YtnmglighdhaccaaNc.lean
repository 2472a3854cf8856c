import Derived.Test.YtnmglighdhaccaaNb
set_option linter.unusedVariables false
namespace Go.AB
open Go Go.Proofs
theorem normW_len (l : List R56) : (normW l).length ≤ l.length := by
  unfold normW
  rw [isr_len]
  have h1 := List.length_filter_le posU (l.foldl addW [])
  have h2 := foldW_len l []
  simp only [List.length_nil,Nat.zero_add] at h2 ⊢
  omega
theorem normW_pat {l : List R56} {Q : List Int → Prop} (h : ∀ u,u ∈ l → Q u.Pq) : ∀ u,u ∈ normW l → Q u.Pq := fun u hu => by
  unfold normW at hu
  have := (isr_pm _).mem_iff.1 hu
  exact foldW_pat (Q := Q) h u (List.mem_filter.1 this).1
theorem trimR_cases {p : R23} {l : List R56} (hb : sndB p l = true → barsU l ≤ 1000) : (trimR p l = ([],1) ∧ (sndB p l && mtB p l) = false) ∨ (trimR p l = ([],18) ∧ (sndB p l && mtB p l) = false) ∨ (trimR p l = (normL (trimL p l),0) ∧ Okp p l) := by
  unfold trimR
  cases hs : sndB p l with
  | false => exact .inl ⟨by rw [if_neg (by simp)],rfl⟩
  | true =>
    cases hm : mtB p l with
    | false => exact .inr (.inl ⟨by rw [if_pos rfl,if_neg (by simp)],rfl⟩)
    | true => exact .inr (.inr ⟨by rw [if_pos rfl,if_pos rfl],⟨sndB_iff.1 hs,hm,hb hs⟩⟩)
theorem short_bars {p : R23} {l : List R56} (h1 : l.length ≤ 12) (h2 : ∀ u,u ∈ l → u.Pq.length ≤ 25 ∧ u.Cq ≤ 40) : sndB p l = true → barsU l ≤ 1000 := fun hs => by
  have := barsU_le (B := 40) (l := l) fun u hu => (h2 u hu).2
  omega
theorem trimR_out {p : R23} {l : List R56} (hb : sndB p l = true → barsU l ≤ 1000) : (trimR p l).1.length ≤ 1000 ∧ ∀ u,u ∈ (trimR p l).1 → u.Pq.length ≤ 25 := by
  rcases trimR_cases hb with ⟨e,_⟩ | ⟨e,_⟩ | ⟨e,ok⟩
  · rw [e]; simp
  · rw [e]; simp
  · rw [e]; exact ⟨ok.tsnd.len,ok.tsnd.pl⟩
theorem m8_gen {n : Nat} {p : R23} {l : List R56} (hl : l.length ≤ 9223372036854775807) (hi : ∀ u,u ∈ l → i64U u) (hn : 6000 < n) (hn2 : l.length < n) : m8 n p l = some true := by
  unfold m8
  obtain ⟨b,hb⟩ := m11_tot (p := p) (show 30 < n by omega)
  rw [m10_val (by omega),Option.bind_some,mkP,hb]
  cases b with
  | false => rfl
  | true =>
    obtain ⟨c,hc,hc2⟩ := m29_tot hl hn2
    rw [hc]
    cases c with
    | false => rfl
    | true =>
      obtain ⟨h1,h2⟩ := hc2 rfl
      have hp : ∀ u,u ∈ l → u.Pq.length ≤ 25 := fun u hu => (h2 u hu).1
      have hbar := short_bars (p := p) h1 h2
      have ho := trimR_out (p := p) hbar
      have hnl := normW_len l
      have hmade : ∀ x : List Int × Int,x = (if sndB p l = true then (madeL p l,0) else ([],1)) → x.1.length ≤ 1000 := fun x e => by
        rw [e]; split
        · rename_i hs
          rw [madeL_len]; have := (sndB_iff.1 hs).vp.l2; omega
        · simp
      have a1 := m33_all (n := n) (p := p) (l := l) (by omega) hp (by omega)
      have a2 := m38_all (n := n) (p := p) (l := l) (by omega) hp (by omega)
      generalize hM : (if sndB p l = true then (madeL p l,(0 : Int)) else ([],1)) = M at a1 a2
      have hM2 := hmade M hM.symm
      simp only [gdO,Bool.not_true,Bool.not_false,Bool.or_self,if_true,Option.bind_some,Bool.false_eq_true,if_false]
      have b1 : m34 n M.1 M.1 = some true := m34_refl (by omega) (by omega)
      have b2 : m37 n (trimR p l).1 = some (trimR p l).1 := m37_val (by omega) (by omega)
      have b3 : m36 n (trimR p l).1 (trimR p l).1 = some true := m36_refl (by omega) (by omega) ho.2 (by omega)
      have b4 : m37 n (normW l) = some (normW l) := m37_val (by omega) (by omega)
      have b5 : m36 n (normW l) (normW l) = some true := m36_refl (by omega) (by omega) (normW_pat (Q := fun a => a.length ≤ 25) hp) (by omega)
      rw [m32_val (by omega) (by omega),Option.bind_some,a1,Option.bind_some,a2,Option.bind_some,m39_val (by omega) hp hbar (by omega),Option.bind_some,m40_val (by omega) hp hbar (by omega),Option.bind_some]
      simp only [decide_true,Bool.true_and,Bool.and_true,if_true,b1,b2,b3,b4,b5,Option.bind_some,m41_val (n := n) (p := p) (l := l) (by omega) hp (by omega),m42_val (n := n) (p := p) (l := l) (by omega) hp (by omega),beq_self_eq_true,m35_all (n := n) (l := l) (by omega) (by omega),m43_all (n := n) (l := l) (by omega) (by omega),m31_val (n := n) (l := l) (by omega) hp (by omega),m44_val (n := n) (l := l) (by omega) hp hi (by omega)]
theorem m8_true (p : R23) (l : List R56) (hl : l.length ≤ maxLen) (hi : ∀ u,u ∈ l → i64U u) : m8 (l.length + 7000) p l = some true := m8_gen (by unfold maxLen at hl; omega) hi (by omega) (by omega)
theorem i64U_wf {u : R56} (h : (Lit.int .i64 u.Cq).wf = true) : i64U u := by
  simp [Lit.wf,IntKind.min,IntKind.max,IntKind.signed,IntKind.bits] at h
  unfold i64U
  omega
end Go.AB
