import Derived.Test.YtpdllokejgpnoaaLj
import Derived.Test.YtpdllokejgpnoaaFd
import Derived.Test.YtpdllokejgpnoaaLs
set_option linter.unusedVariables false
namespace Go.AB
open Go

/-- more value for its size -/
def ltI (a b : R27) : Bool := decide (b.Value * a.Size - a.Value * b.Size < 0)
theorem m35_val {n : Nat} {a b : R27} (ha : okI a) (hb : okI b) : m35 n a b = some (b.Value * a.Size - a.Value * b.Size) := by
  obtain ⟨s1, s2, v1, v2, _⟩ := ha
  obtain ⟨s3, s4, v3, v4, _⟩ := hb
  obtain ⟨p1, p2⟩ := mulB v3 v4 (show 0 ≤ a.Size by omega) s2
  obtain ⟨p3, p4⟩ := mulB v1 v2 (show 0 ≤ b.Size by omega) s4
  unfold m35
  rw [wrap64 (x := b.Value * a.Size) (by omega) (by omega), wrap64 (x := a.Value * b.Size) (by omega) (by omega), wrap64 (by omega) (by omega)]
  rfl
theorem m43_L4_val {N : Nat} {x : R27} (hx : okI x) (k : List R27 → Option (List R27)) : ∀ (ps qs : List R27) (n : Nat), (∀ p, p ∈ ps → okI p) → ps.length ≤ 1000 → ps.length < n →
    loopM (m43_L4 N 0 k) n ((ps.length : Int), ps.reverse ++ x :: qs) = k ((insR ltI x ps).reverse ++ qs)
  | [], qs, n + 1, _, _, _ => by
    rw [loopM_succ, m43_L4]
    simp [gdO, insR]
  | p :: ps, qs, n + 1, ho, hl, hn => by
    have hp := ho p (by simp)
    have hc : decide ((0 : Int) < (((p :: ps).length : Nat) : Int)) = true := by simp
    simp only [List.length_cons] at hl hn
    have e1 : (p :: ps).reverse ++ x :: qs = ps.reverse ++ p :: x :: qs := by simp
    have e2 : ps.reverse ++ p :: x :: qs = (ps.reverse ++ [p]) ++ x :: qs := by simp
    have e3 : (((p :: ps).length : Nat) : Int) = (((ps.reverse ++ [p]).length : Nat) : Int) := by simp
    have e4 : IntKind.wrap .i64 ((((p :: ps).length : Nat) : Int) - 1) = ((ps.reverse.length : Nat) : Int) := by
      rw [wrap64 (by simp only [List.length_cons]; omega) (by simp only [List.length_cons]; omega)]; simp only [List.length_cons, List.length_reverse]; omega
    rw [loopM_succ, m43_L4]
    simp only [hc, gdO_true, Bool.true_and]
    rw [e1, e2, get_mid e3]
    simp only [Option.bind_some]
    rw [← e2, e4, get_mid rfl]
    simp only [Option.bind_some]
    rw [m35_val hx hp]
    simp only [Option.bind_some]
    by_cases h : p.Value * x.Size - x.Value * p.Size < 0
    · have hlt : ltI x p = true := by simpa [ltI] using h
      rw [if_pos (by simpa using h), e2, put_mid e3]
      simp only [Option.bind_some]
      rw [show ps.reverse ++ [p] ++ (R27.mk p.Size p.Value p.Most) :: qs = ps.reverse ++ p :: p :: qs by simp, get_mid rfl]
      simp only [Option.bind_some]
      rw [put_mid rfl]
      simp only [Option.bind_some, letM_eq]
      have ih := m43_L4_val (N := N) hx k ps (p :: qs) n (fun q hq => ho q (List.mem_cons_of_mem _ hq)) (by omega) (by omega)
      rw [List.length_reverse]
      refine Eq.trans ih ?_
      rw [insR, if_pos hlt]
      simp
    · have hlt : ltI x p = false := by simpa [ltI] using h
      rw [if_neg (by simpa using h), insR, if_neg (by simp [hlt])]
      simp
theorem m43_L3_val {N : Nat} (k : List R27 → Option (List R27)) (e : Nat) : ∀ (xs acc qs : List R27) (n : Nat), (∀ p, p ∈ acc → okI p) → (∀ p, p ∈ xs → okI p) → acc.length + xs.length = e → e ≤ 1000 → xs.length < n → 1000 < N →
    loopM (m43_L3 N 0 (e : Int) k) n ((acc.length : Int), acc.reverse ++ xs ++ qs) = k (isr ltI acc xs ++ qs)
  | [], acc, qs, n + 1, ha, hx, hl, h2, hn, hN => by
    simp only [List.length_nil, Nat.add_zero] at hl
    rw [loopM_succ, m43_L3, if_neg (by simp; omega)]
    simp [isr]
  | x :: xs, acc, qs, n + 1, ha, hx, hl, h2, hn, hN => by
    simp only [List.length_cons] at hl hn
    have hxx := hx x (by simp)
    rw [loopM_succ, m43_L3, if_pos (by simp; omega), show acc.reverse ++ x :: xs ++ qs = acc.reverse ++ x :: (xs ++ qs) by simp, jn]
    refine (m43_L4_val hxx _ acc (xs ++ qs) N ha (by omega) (by omega)).trans ?_
    simp only [letM_eq]
    rw [wrap64 (by omega) (by omega)]
    have ih := m43_L3_val (N := N) k e xs (insR ltI x acc) qs n (fun p hp => ?_) (fun p hp => hx p (List.mem_cons_of_mem _ hp)) (by rw [insR_len]; omega) h2 (by omega) hN
    · rw [insR_len] at ih
      refine Eq.trans ?_ ih
      simp
    · rcases List.mem_cons.1 ((insR_perm ltI x acc).mem_iff.1 hp) with rfl | hp
      · exact hxx
      · exact ha p hp
/-- the items, the dearest for their size first -/
def srt (l : List R27) : List R27 := isr ltI [] l
theorem m43_val {N : Nat} {l : List R27} (hl : okL l) (h : l.length ≤ 1000) (hN : 1001 < N) : m43 N l 0 (l.length : Int) = some (srt l) := by
  cases l with
  | nil =>
    unfold m43 jn
    simp only [letM_eq]
    rw [wrap64 (by omega) (by omega)]
    obtain ⟨N, rfl⟩ : ∃ M, N = M + 1 := ⟨N - 1, by omega⟩
    rw [loopM_succ, m43_L3]
    simp [srt, isr]
  | cons x xs =>
    have := m43_L3_val (N := N) some (x :: xs).length xs [x] [] N (fun p hp => hl p (by simp at hp; simp [hp])) (fun p hp => hl p (List.mem_cons_of_mem _ hp)) (by simp; omega) h (by simp at h; omega) (by omega)
    unfold m43 jn
    simp only [letM_eq]
    rw [wrap64 (by omega) (by omega)]
    simp only [List.reverse_cons, List.reverse_nil, List.nil_append, List.append_nil, List.singleton_append] at this
    exact this
theorem srt_perm (l : List R27) : (srt l).Perm l := by simpa [srt] using isr_perm ltI l []
theorem okL_srt {l : List R27} (hl : okL l) : okL (srt l) := fun x hx => hl x ((srt_perm l).mem_iff.1 hx)
theorem srt_len (l : List R27) : (srt l).length = l.length := (srt_perm l).length_eq
theorem m43_end {N : Nat} {l : List R27} (hN : 1 < N) : m43 N l 20 20 = some l := by
  unfold m43 jn
  obtain ⟨N, rfl⟩ : ∃ M, N = M + 1 := ⟨N - 1, by omega⟩
  simp only [letM_eq]
  rw [wrap64 (by omega) (by omega), loopM_succ, m43_L3]
  rfl
theorem m40_L4_val {N n : Nat} {l : List R27} (h : l.length ≤ 20) (hn : 0 < n) (k : Unit → Option (List R27)) : loopM (m40_L4 N (l.length : Int) k) n 20 = k () := by
  obtain ⟨n, rfl⟩ : ∃ M, n = M + 1 := ⟨n - 1, by omega⟩
  rw [loopM_succ, m40_L4, if_neg (by simp; omega)]
theorem m40_val {N : Nat} {l : List R27} (hl : okL l) (h : l.length ≤ 20) (hN : 1001 < N) : m40 N l (l.length : Int) = some (srt l) := by
  have tail := fun k => m40_L4_val (N := N) (n := N) (l := l) h (by omega) k
  have h2 := m43_val (N := N) hl (by omega) (by omega)
  rw [m40, jn]
  obtain ⟨n, hn⟩ : ∃ M, N = M + 2 := ⟨N - 2, by omega⟩
  rcases Nat.lt_or_ge l.length 20 with h1 | h1
  · have key : ∀ k, loopM (m40_L1 N (l.length : Int) k) N ((0 : Int), (20 : Int), l) = k (0, l) := by
      intro k
      conv => lhs; arg 2; rw [hn]
      rw [loopM_succ, m40_L1, if_neg (by simp; omega)]
    refine (key _).trans ?_
    simp only
    rw [h2]
    simp only [Option.bind_some]
    rw [asrt_pos (srt_len l).symm, jn]
    exact tail _
  · have e : l.length = 20 := by omega
    have key : ∀ k, loopM (m40_L1 N (l.length : Int) k) N ((0 : Int), (20 : Int), l) = k (20, srt l) := by
      intro k
      conv => lhs; arg 2; rw [hn]
      rw [loopM_succ, m40_L1, if_pos (by simp; omega)]
      simp only
      rw [e] at h2
      rw [show (20 : Int) = ((20 : Nat) : Int) from rfl, h2]
      simp only [Option.bind_some]
      rw [asrt_pos (srt_len l).symm]
      simp only [letM_eq]
      rw [loopM_succ, m40_L1, if_neg (by rw [wrap64 (by omega) (by omega)]; simp; omega)]
    refine (key _).trans ?_
    simp only
    rw [e, show ((20 : Nat) : Int) = 20 from rfl, m43_end (by omega)]
    simp only [Option.bind_some]
    rw [asrt_pos trivial, jn]
    rw [e] at tail
    exact tail _
theorem m34_val {l : List R27} (hl : okL l) (h : l.length ≤ 20) : m34 5000 l = some (srt l) := by
  unfold m34
  rw [m40_val hl h (by omega)]
  simp only [Option.bind_some]
  rw [asrt_pos (srt_len l).symm]
theorem m33o_val {l : List R27} (h : l.length ≤ 1000) : m33o 5000 l = some l := by
  unfold m33o
  rw [apd_val (by simp; omega)]
  rfl
end Go.AB
