import Derived.Test.YtpdllokejgpnoaaLg
set_option linter.unusedVariables false
namespace Go.AB
open Go

theorem set_rep {os : List Nat} {m : Nat} {o : Nat} : (casts os ++ List.replicate (m + 1) (0 : Int)).set os.length (o : Int) = casts (os ++ [o]) ++ List.replicate m 0 := by
  rw [List.set_append_right _ _ (by rw [casts_len]; exact Nat.le_refl _), casts_len, Nat.sub_self, List.replicate_succ, List.set_cons_zero, casts_append]
  simp [casts]
theorem rep_zero {os : List Nat} {m : Nat} : (casts os ++ List.replicate (m + 1) (0 : Int)) = casts (os ++ [0]) ++ List.replicate m 0 := by
  rw [List.replicate_succ, casts_append]
  simp [casts]

theorem m7_L1_val {l : List R27} {cap : Nat} (x : List UInt8) {y6 : List Int × Int × Int} (hl : okL l) (hlen : l.length ≤ 8) (hcap : cap ≤ 4000) (hy : y6.1 = casts (sol l cap)) (kk : List Int → Option Bool) :
    ∃ os, fea l os cap ∧ loopM (m7_L1 5000 l x y6 kk) 5000 ((cap : Int), (0 : Int), List.replicate l.length 0) = kk (casts os) := by
  refine loopM_ind (body := m7_L1 5000 l x y6 kk)
    (fun q st => ∃ (i : Nat) (os : List Nat), os.length = i ∧ i ≤ l.length ∧ fea (l.take i) os cap ∧ st = (((cap - sz (l.take i) os : Nat) : Int), (i : Int), casts os ++ List.replicate (l.length - i) 0) ∧ q = l.length - i)
    (fun o => ∃ os, fea l os cap ∧ o = kk (casts os)) (fun q st => ?_) 5000 l.length _ ⟨0, [], rfl, Nat.zero_le _, by simp [fea], by simp [sz, casts], rfl⟩ (by omega)
  rintro ⟨i, os, rfl, hi, hf, rfl, rfl⟩
  by_cases hlt : os.length < l.length
  · left
    have hcond : (decide ((os.length : Int) < (l.length : Int))) = true := by simpa using hlt
    have hx := hl _ (List.getElem_mem hlt)
    obtain ⟨S, hS, hSn, hS1, hS4⟩ := size_nat hx
    obtain ⟨M, hM, hMn, hM1⟩ := most_nat hx
    have hsz := (fea_iff.1 hf).2.2
    generalize hlft : cap - sz (l.take os.length) os = lf at *
    have hlf : lf ≤ cap := by omega
    have hdl : lf / S ≤ 4000 := Nat.le_trans (Nat.div_le_self _ _) (by omega)
    obtain ⟨hs1, hs2, hs3⟩ := fea_iff.1 (fea_sol (c := cap) hl)
    have hsi : os.length < (sol l cap).length := by omega
    have hbest := hs2 os.length l[os.length] (sol l cap)[os.length] (List.getElem?_eq_getElem hlt) (List.getElem?_eq_getElem hsi)
    have hy1 : getIdx y6.1 (os.length : Int) = some ((sol l cap)[os.length] : Int) := by rw [hy]; exact getIdx_q rfl (casts_at (List.getElem?_eq_getElem hsi))
    have hrep : List.replicate (l.length - os.length) (0 : Int) = List.replicate ((l.length - (os.length + 1)) + 1) 0 := by congr 1; omega
    -- what is laid down
    have key : ∃ o : Nat, o ≤ l[os.length].Most.toNat ∧ o * l[os.length].Size.toNat ≤ lf ∧ ∀ (kq : List Int → Option Bool),
        (if (decide ((os.length : Int) < (x.length : Int))) = true then ((getIdx x (os.length : Int)).bind fun y_49 => ((getIdx l (os.length : Int)).bind fun y_50 => ((getIdx l (os.length : Int)).bind fun y_51 => (asrt (y_51.Size ≠ 0) ((getIdx (casts os ++ List.replicate (l.length - os.length) 0) (os.length : Int)).bind fun y_53 => ((setIdx (casts os ++ List.replicate (l.length - os.length) 0) (os.length : Int) (if (IntKind.wrap .i64 ((lf : Int).tdiv y_51.Size)) < (if y_50.Most < (IntKind.wrap .i64 (y_49.toNat : Int)) then y_50.Most else (IntKind.wrap .i64 (y_49.toNat : Int))) then (IntKind.wrap .i64 ((lf : Int).tdiv y_51.Size)) else (if y_50.Most < (IntKind.wrap .i64 (y_49.toNat : Int)) then y_50.Most else (IntKind.wrap .i64 (y_49.toNat : Int))))).bind fun l1_54 => (kq l1_54))))))) else (kq (casts os ++ List.replicate (l.length - os.length) 0))) =
        kq (casts (os ++ [o]) ++ List.replicate (l.length - (os.length + 1)) 0) := by
      by_cases hxl : os.length < x.length
      · have hu := (x[os.length]).toNat_lt
        refine ⟨min (min (x[os.length]).toNat M) (lf / S), by omega, ?_, fun kq => ?_⟩
        · rw [hSn]
          exact (divS hS1).1 (by omega)
        · rw [if_pos (by simpa using hxl), getIdx_at (k := os.length) rfl hxl]
          simp only [Option.bind_some]
          rw [getIdx_at (k := os.length) rfl hlt]
          simp only [Option.bind_some]
          rw [asrt_pos (by omega), getIdx_at (k := os.length) rfl (by simp [casts_len]; omega)]
          simp only [Option.bind_some]
          have e1 : (if (IntKind.wrap .i64 ((lf : Int).tdiv l[os.length].Size)) < (if l[os.length].Most < (IntKind.wrap .i64 ((x[os.length]).toNat : Int)) then l[os.length].Most else (IntKind.wrap .i64 ((x[os.length]).toNat : Int))) then (IntKind.wrap .i64 ((lf : Int).tdiv l[os.length].Size)) else (if l[os.length].Most < (IntKind.wrap .i64 ((x[os.length]).toNat : Int)) then l[os.length].Most else (IntKind.wrap .i64 ((x[os.length]).toNat : Int)))) = ((min (min (x[os.length]).toNat M) (lf / S) : Nat) : Int) := by
            rw [hS, show (lf : Int).tdiv (S : Int) = ((lf / S : Nat) : Int) by rw [Int.tdiv_eq_ediv_of_nonneg (by omega)]; rfl, hM]
            generalize lf / S = q at hdl
            generalize (x[os.length]).toNat = u at hu
            rw [wrap64 (by omega) (by omega), wrap64 (by omega) (by omega)]
            repeat' split
            all_goals omega
          rw [e1, hrep, setIdx_at (k := os.length) rfl (by simp [casts_len]), set_rep]
          rfl
      · refine ⟨0, Nat.zero_le _, by simp, fun kq => ?_⟩
        rw [if_neg (by simpa using hxl), hrep, rep_zero]
    obtain ⟨o, ho1, ho2, hkq⟩ := key
    have htake : l.take (os.length + 1) = l.take os.length ++ [l[os.length]] := List.take_succ_eq_append_getElem hlt
    have hlt' : os.length = (l.take os.length).length := by rw [List.length_take]; omega
    refine ⟨l.length - (os.length + 1), (((cap - sz (l.take (os.length + 1)) (os ++ [o]) : Nat) : Int), ((os.length + 1 : Nat) : Int), casts (os ++ [o]) ++ List.replicate (l.length - (os.length + 1)) 0), by omega,
      ⟨os.length + 1, os ++ [o], by simp, by omega, by rw [htake]; exact fea_snoc hf ho1 (by rw [hlft]; exact ho2), rfl, rfl⟩, fun nx => ?_⟩
    unfold m7_L1
    simp only []
    rw [if_pos hcond, hy1]
    simp only [Option.bind_some]
    have hneg : (decide (((sol l cap)[os.length] : Int) < 0)) = false := by simp
    rw [hneg]
    simp only [Bool.not_false, gdO_true, hy1, Option.bind_some, getIdx_at (k := os.length) rfl hlt, Bool.false_or]
    rw [if_neg (by rw [hM]; simp; omega), jn]
    have h14 := hkq (fun p_55 => (getIdx p_55 (os.length : Int)).bind fun y_57 => (getIdx l (os.length : Int)).bind fun y_58 => letM (IntKind.wrap .i64 ((lf : Int) - (IntKind.wrap .i64 (y_57 * y_58.Size)))) fun t11_59 => letM (IntKind.wrap .i64 ((os.length : Int) + 1)) fun t69_60 => nx (t11_59, t69_60, p_55))
    refine Eq.trans ?_ (h14.trans ?_)
    · simp only [getIdx_at (k := os.length) rfl hlt, Option.bind_some]
    · have hget : (casts (os ++ [o]) ++ List.replicate (l.length - (os.length + 1)) (0 : Int))[os.length]? = some (o : Int) := by
        rw [List.getElem?_append_left (by rw [casts_len]; simp)]
        exact casts_at (by simp)
      rw [getIdx_q (k := os.length) rfl hget]
      simp only [Option.bind_some]
      rw [getIdx_at (k := os.length) rfl hlt]
      simp only [Option.bind_some, letM_eq]
      rw [hSn] at ho2
      rw [hS, show ((o : Int) * (S : Int)) = ((o * S : Nat) : Int) by simp, wrap64 (x := ((o * S : Nat) : Int)) (by omega) (by omega), wrap64 (by omega) (by omega), wrap64 (by omega) (by omega)]
      have e2 : (lf : Int) - ((o * S : Nat) : Int) = ((cap - sz (l.take (os.length + 1)) (os ++ [o]) : Nat) : Int) := by
        rw [htake, sz_snoc hlt', hSn]
        omega
      rw [e2]
      rfl
  · right
    refine ⟨kk (casts os), ⟨os, ?_, rfl⟩, fun nx => by
      have hcond : ¬ (decide ((os.length : Int) < (l.length : Int))) = true := by simpa using hlt
      unfold m7_L1
      simp only []
      rw [if_neg hcond, show l.length - os.length = 0 by omega]
      simp⟩
    rw [List.take_of_length_le (by omega)] at hf
    exact hf

theorem m7_true (l : List R27) (c : Int) (x : List UInt8) : m7 5000 l c x = some true := by
  unfold m7
  rw [m11_true]
  simp only [Option.bind_some, Bool.not_true, Bool.not_false, Bool.false_or, gdO_true, m12_val]
  cases hf : fewB l c with
  | false => simp [gdO]
  | true =>
    obtain ⟨h30, hfew⟩ := fewB_ok hf
    have h14 := m14_val (n := 5000) (l := l) (by omega) (by omega)
    have h13 := m13_val (n := 5000) (l := l) (c := c) (by omega) (by omega)
    simp only [Bool.not_true, Bool.not_false, gdO_true, h13, Option.bind_some, Bool.false_or]
    cases hv : vldB l c with
    | false => simp
    | true =>
      obtain ⟨hl, _, cap, rfl, hcap⟩ := vldB_ok hv
      obtain ⟨h8, h200⟩ := hfew hv
      have hsm : ∀ s, fea l s cap → ∀ m, m ∈ s → m ≤ 4000 := fun s hs m hm => by
        have := fea_small hl hs m hm
        omega
      have hfs := fea_sol (c := cap) hl
      have hfi := fea_iff.1 hfs
      simp only [Bool.not_true, Bool.false_eq_true, if_false, h14, Option.bind_some]
      rw [m16_val hl hcap (by omega) (by omega)]
      simp only [Option.bind_some, casts_len, sol_len, decide_true, Bool.not_true, Bool.or_self, Bool.false_or, Bool.not_false, gdO_true]
      rw [m21_val hl (by omega) (sol_len l cap) (hsm _ hfs) (by omega), vl_sol]
      simp only [Option.bind_some, decide_true, Bool.not_true, Bool.not_false, gdO_true, Bool.false_or]
      rw [m22_val hl (by omega) (sol_len l cap) (hsm _ hfs) (by omega)]
      simp only [Option.bind_some]
      rw [if_neg (by simp; omega), mk_val (k := l.length) rfl rfl (by omega)]
      simp only [Option.bind_some]
      rw [jn]
      obtain ⟨os, ho, hq⟩ := m7_L1_val (y6 := (casts (sol l cap), T l cap, 0)) x hl h8 hcap rfl _
      rw [hq]
      have hoi := fea_iff.1 ho
      rw [m21_val hl (by omega) hoi.1 (hsm _ ho) (by omega)]
      simp only [Option.bind_some]
      have hub := T_ub hl ho
      by_cases he : vl l os = T l cap
      · rw [if_neg (by simp [he]), jn]
        have hlex := lex_sol hl ho he
        refine loopM_ind (body := m7_L2 5000 l (casts (sol l cap), T l cap, 0) (casts os) fun _ => some true)
          (fun q z => ∃ i : Nat, z = (i : Int) ∧ q = l.length - i ∧ i ≤ l.length ∧ os.take i = (sol l cap).take i) (fun o => o = some true) (fun q z => ?_) 5000 l.length 0 ⟨0, rfl, rfl, Nat.zero_le _, by simp⟩ (by omega)
        rintro ⟨i, rfl, rfl, hi, ht⟩
        by_cases hlt : i < l.length
        · have hcond : (decide ((i : Int) < (l.length : Int))) = true := by simpa using hlt
          have hio : i < os.length := by omega
          have his : i < (sol l cap).length := by rw [sol_len]; exact hlt
          have hb := getIdx_q (xs := casts (sol l cap)) (i := (i : Int)) (k := i) (y := ((sol l cap)[i] : Int)) rfl (casts_at (List.getElem?_eq_getElem his))
          have ho' := getIdx_q (xs := casts os) (i := (i : Int)) (k := i) (y := (os[i] : Int)) rfl (casts_at (List.getElem?_eq_getElem hio))
          by_cases hd : (sol l cap)[i] = os[i]
          · left
            refine ⟨l.length - (i + 1), ((i + 1 : Nat) : Int), by omega, ⟨i + 1, rfl, rfl, by omega, ?_⟩, fun nx => ?_⟩
            · rw [List.take_succ_eq_append_getElem hio, List.take_succ_eq_append_getElem his, ht, hd]
            · unfold m7_L2
              simp only []
              rw [if_pos hcond, hb]
              simp only [Option.bind_some]
              rw [ho']
              simp only [Option.bind_some, letM_eq]
              rw [if_neg (by simp [hd]), wrap64 (by omega) (by omega)]
              rfl
          · right
            refine ⟨some true, rfl, fun nx => ?_⟩
            have hlt2 : os[i] < (sol l cap)[i] := by
              rcases hlex with h | ⟨j, a, b, g1, g2, g3, g4⟩
              · exfalso
                have := congrArg (fun z => z[i]?) h
                rw [List.getElem?_eq_getElem hio, List.getElem?_eq_getElem his] at this
                exact hd (Option.some.inj this).symm
              · have hji : j = i := by
                  rcases Nat.lt_trichotomy j i with h | h | h
                  · exfalso
                    have h5 := congrArg (fun z => z[j]?) ht
                    rw [List.getElem?_take_of_lt h, List.getElem?_take_of_lt h, g1, g2] at h5
                    have := Option.some.inj h5
                    omega
                  · exact h
                  · exfalso
                    have h5 := congrArg (fun z => z[i]?) g4
                    rw [List.getElem?_take_of_lt h, List.getElem?_take_of_lt h, List.getElem?_eq_getElem hio, List.getElem?_eq_getElem his] at h5
                    exact hd (Option.some.inj h5).symm
                subst hji
                rw [List.getElem?_eq_getElem hio] at g1
                rw [List.getElem?_eq_getElem his] at g2
                have := Option.some.inj g1
                have := Option.some.inj g2
                omega
            unfold m7_L2
            simp only []
            rw [if_pos hcond, hb]
            simp only [Option.bind_some]
            rw [ho']
            simp only [Option.bind_some]
            rw [if_pos (by simp; omega)]
            simp [hlt2]
        · right
          refine ⟨some true, rfl, fun nx => ?_⟩
          have hcond : ¬ (decide ((i : Int) < (l.length : Int))) = true := by simpa using hlt
          unfold m7_L2
          rw [if_neg hcond]
      · rw [if_pos (by simp [he])]
        have : vl l os < T l cap := by omega
        simp [this]
end Go.AB
