import Derived.Test.YtnmglighdhaccaaNb
set_option linter.unusedVariables false
namespace Go.AB
open Go Go.Proofs
theorem trimR_cases {p : R23} {l : List R56} (hb : sndB p l = true → barsU l ≤ 1000) : (trimR p l = ([],1) ∧ (sndB p l && mtB p l) = false) ∨ (trimR p l = ([],18) ∧ (sndB p l && mtB p l) = false) ∨ (trimR p l = (normL (trimL p l),0) ∧ Okp p l) := by
  unfold trimR
  cases hs : sndB p l with
  | false => exact .inl ⟨by rw [if_neg (by simp)],rfl⟩
  | true =>
    cases hm : mtB p l with
    | false => exact .inr (.inl ⟨by rw [if_pos rfl,if_neg (by simp)],rfl⟩)
    | true => exact .inr (.inr ⟨by rw [if_pos rfl,if_pos rfl],⟨sndB_iff.1 hs,hm,hb hs⟩⟩)
theorem short_bars {p : R23} {l : List R56} (h1 : l.length ≤ 12) (h2 : ∀ u,u ∈ l → u.Pattern.length ≤ 25 ∧ u.Count ≤ 40) : sndB p l = true → barsU l ≤ 1000 := fun hs => by
  have := barsU_le (B := 40) (l := l) fun u hu => (h2 u hu).2
  omega
theorem m9_gen {n : Nat} {p : R23} {l : List R56} (hl : l.length ≤ 9223372036854775807) (hn : 6000 < n) (hn2 : l.length < n) : m9 n p l = some true := by
  unfold m9
  obtain ⟨b,hb⟩ := m11_tot (p := p) (show 30 < n by omega)
  rw [m10_val (by omega),Option.bind_some,mkP,hb]
  cases b with
  | false => rfl
  | true =>
    obtain ⟨c,hc,hc2⟩ := m29_tot hl hn2
    rw [hc]
    cases c with
    | false => rfl
    | true =>
      obtain ⟨h1,h2⟩ := hc2 rfl
      have hp : ∀ u,u ∈ l → u.Pattern.length ≤ 25 := fun u hu => (h2 u hu).1
      have hbar := short_bars (p := p) h1 h2
      simp only [gdO,Bool.not_true,Bool.not_false,Bool.or_self,if_true,Option.bind_some,Bool.false_eq_true,if_false]
      rw [m32_val (by omega) (by omega),Option.bind_some,m39_val (by omega) hp hbar (by omega),Option.bind_some]
      rcases trimR_cases (p := p) hbar with ⟨e,q⟩ | ⟨e,q⟩ | ⟨e,ok⟩
      · rw [e,m41_val (by omega) hp (by omega),q]; rfl
      · rw [e,m41_val (by omega) hp (by omega),q]; rfl
      · have ht := ok.tsnd
        have hk := ok.tok
        have htl := ht.len
        have hb2 := ok.tb
        have hmt := ok.mat
        have hsn : sndB p (normL (trimL p l)) = true := sndB_iff.2 ht
        have a1 : m39 n p (normL (trimL p l)) = some (normL (trimL p l),0) := by
          rw [m39_val (by omega) ht.pl (fun _ => hk.b) (by omega)]
          unfold trimR
          rw [hsn,if_pos rfl,hk.mt,if_pos rfl,ok.again]
        have a2 : m22 n p = some (matP p,0) := by rw [m22_val (by omega),vP_iff.2 ok.s.vp,if_pos rfl]
        have a3 : m33 n p (normL (trimL p l)) = some (p.Demand,0) := by rw [m33_val ht (by omega),ok.tmade]
        have a4 : m35 n (normL (trimL p l)) = some (barsU (normL (trimL p l))) := m35_val (by omega) (by omega) fun u hu => by have := ht.cnt u hu; omega
        have a5 : m35 n l = some (barsU l) := m35_val (by omega) (by omega) fun u hu => by have := ok.s.cnt u hu; omega
        have a6 : m41 n p (normL (trimL p l)) = some true := by rw [m41_val (by omega) ht.pl (by omega),hsn,hk.mt]; rfl
        have a7 : m34 n p.Demand p.Demand = some true := m34_refl (by rw [ok.s.vp.dl]; have := ok.s.vp.l2; omega) (by rw [ok.s.vp.dl]; have := ok.s.vp.l2; omega)
        have a8 : m37 n (normL (trimL p l)) = some (normL (trimL p l)) := m37_val (by omega) (by omega)
        have a9 : m36 n (normL (trimL p l)) (normL (trimL p l)) = some true := m36_refl (by omega) (by omega) ht.pl (by omega)
        rw [e]
        simp only [decide_true,Bool.not_true,Bool.false_eq_true,if_false,a1,a2,a3,Option.bind_some,Bool.true_and,if_true,a7,a4,a5,decide_eq_true hb2,decide_eq_true hmt,a6,a8,a9,letM]
theorem m9_true (p : R23) (l : List R56) (hl : l.length ≤ maxLen) : m9 (l.length + 7000) p l = some true := m9_gen (by unfold maxLen at hl; omega) (by omega) (by omega)
end Go.AB
