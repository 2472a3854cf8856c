import Derived.Test.YtnmglighdhaccaaMy
set_option linter.unusedVariables false
namespace Go.AB
open Go Go.Proofs
def cutA (a m : List Int) : List Int := List.zipWith (fun x y => x - min x y) a m
def cutM (a m : List Int) : List Int := List.zipWith (fun x y => y - min x y) a m
def addV (m d : List Int) : List Int := List.zipWith (fun x y => x + y) m d
def tst (s : List Int × List R56) (a : List Int) : List Int × List R56 := (cutM a s.1,if posL (cutA a s.1) = true then s.2 ++ [⟨cutA a s.1,1⟩] else s.2)
def barsL (l : List R56) : List (List Int) := l.reverse.flatMap fun u => List.replicate u.Cq.toNat u.Pq
def moreL (p : R23) (l : List R56) : List Int := List.zipWith (fun x d => x - d) (madeL p l) p.Dq
def trimL (p : R23) (l : List R56) : List R56 := ((barsL (normL l)).foldl tst (moreL p l,[])).2
theorem m78_L1_val {N : Nat} {l : List R56} (hl : l.length ≤ 1000000) : ∀ (i n : Nat),i ≤ l.length → i < n →
    loopM (m78_L1 N l fun _ => some []) n ((i : Int) - 1) = some (((List.range i).map fun (j : Nat) => ((j : Int),U l j)).reverse)
  | 0,n + 1,_,_ => by
    rw [loopM_succ,m78_L1,if_neg (by simp)]; rfl
  | i + 1,n + 1,hi,hn => by
    have ih := m78_L1_val (N := N) hl i n (by omega) (by omega)
    rw [loopM_succ,m78_L1,if_pos (by simp),getIdx_U (k := i) (by omega) (by omega),Option.bind_some,letM_eq,wrap64 (by omega) (by omega)]
    rw [show ((i + 1 : Nat) : Int) - 1 - 1 = (i : Int) - 1 by omega,ih]
    unfold yldM
    rw [if_neg (by simp),List.range_succ,List.map_append,List.reverse_append,Option.map_some]
    simp [mkU]
theorem m78_val {n : Nat} {l : List R56} (hl : l.length ≤ 1000000) (hn : l.length < n) : m78 n l = some (((List.range l.length).map fun (j : Nat) => ((j : Int),U l j)).reverse) := by
  unfold m78 jn
  rw [letM_eq,wrap64 (by omega) (by omega)]
  exact m78_L1_val hl l.length n (by omega) hn
theorem m69_L3_val {N : Nat} {e : Int × R56} {c : Nat} (hc : e.2.Cq = (c : Int)) (h1 : c ≤ 1000000) (h2 : e.2.Pq.length ≤ 1000000) {k : Unit → Option (List (List Int))} {r : List (List Int)} (hk : k () = some r) : ∀ (m i n : Nat),i + m = c → m < n →
    loopM (m69_L3 N e k) n (i : Int) = some (List.replicate m e.2.Pq ++ r)
  | 0,i,n + 1,h,_ => by
    rw [loopM_succ,m69_L3,if_neg (by rw [decide_eq_true_eq]; omega),hk]; rfl
  | m + 1,i,n + 1,h,hn => by
    have ih := m69_L3_val (N := N) hc h1 h2 hk m (i + 1) n (by omega) (by omega)
    rw [loopM_succ,m69_L3,if_pos (by rw [decide_eq_true_eq]; omega)]
    unfold m53o
    rw [apd_val (by simp; omega),Option.bind_some,Option.bind_some,letM_eq,wrap64 (by omega) (by omega),show (i : Int) + 1 = ((i + 1 : Nat) : Int) by omega,ih]
    unfold yldM
    rw [if_neg (by simp)]
    simp [List.replicate_succ]
theorem m69_R_val {N : Nat} : ∀ (es : List (Int × R56)),(∀ e,e ∈ es → 0 ≤ e.2.Cq ∧ e.2.Cq ≤ 1000000 ∧ e.2.Cq < N ∧ e.2.Pq.length ≤ 1000000) → rangeL (m69_R2 N) es (fun _ => some []) () = some (es.flatMap fun e => List.replicate e.2.Cq.toNat e.2.Pq)
  | [],_ => rfl
  | e :: es,h => by
    have he := h e (by simp)
    have ih := m69_R_val es fun e he => h e (List.mem_cons_of_mem _ he)
    rw [rangeL]
    unfold m69_R2 jn
    refine (m69_L3_val (c := e.2.Cq.toNat) (by omega) (by omega) (by omega) ih e.2.Cq.toNat 0 N (by omega) (by omega)).trans ?_
    simp
theorem m69_val {n : Nat} {l : List R56} (hl : l.length ≤ 1000000) (hn : l.length < n) (h : ∀ u,u ∈ l → 0 ≤ u.Cq ∧ u.Cq ≤ 1000000 ∧ u.Cq < n ∧ u.Pq.length ≤ 1000000) : m69 n l = some (barsL l) := by
  unfold m69 m70
  rw [Option.bind_some,m78_val hl hn,Option.bind_some]
  refine (m69_R_val _ fun e he => ?_).trans ?_
  · simp only [List.mem_reverse,List.mem_map,List.mem_range] at he
    obtain ⟨j,hj,rfl⟩ := he
    exact h _ (U_mem hj)
  · unfold barsL
    have e : (List.range l.length).map (fun j => U l j) = l := by
      refine List.ext_getElem (by simp) fun i h1 h2 => ?_
      simp only [List.getElem_map,List.getElem_range]
      exact (U_at h2).symm
    conv => rhs; rw [← e]
    rw [← List.map_reverse,← List.map_reverse,List.flatMap_map,List.flatMap_map]
theorem m61x1_eq (n : Nat) (a : List Int) : m61x1 n a = m61 n a := rfl
theorem minI (x y : Int) : (if y < x then y else x) = min x y := by rw [Int.min_def]; split <;> split <;> omega
def bdA (l : List Int) : Prop := ∀ x,x ∈ l → 0 ≤ x ∧ x ≤ 1000000
def bdM (l : List Int) : Prop := ∀ x,x ∈ l → 0 ≤ x ∧ x ≤ 100000000000
theorem m39_L5_val {N : Nat} {e : List Int} {k : List Int × List Int → Option (List R56 × Int)} : ∀ (ta tm pa pm : List Int) (n : Nat),ta.length = tm.length → pa.length = pm.length → e.length = pa.length + ta.length → e.length ≤ 1000000 → bdA ta → bdM tm → ta.length < n →
    loopM (m39_L5 N e k) n ((pa.length : Int),pa ++ ta,pm ++ tm) = k (pa ++ cutA ta tm,pm ++ cutM ta tm)
  | [],[],pa,pm,n + 1,h1,h2,h3,h4,h5,h6,hn => by
    rw [loopM_succ,m39_L5,if_neg (by rw [h3]; simp)]; rfl
  | [],y :: tm,pa,pm,n + 1,h1,h2,h3,h4,h5,h6,hn => by simp at h1
  | x :: ta,[],pa,pm,n + 1,h1,h2,h3,h4,h5,h6,hn => by simp at h1
  | x :: ta,y :: tm,pa,pm,n + 1,h1,h2,h3,h4,h5,h6,hn => by
    have hx := h5 x (by simp)
    have hy := h6 y (by simp)
    simp only [List.length_cons] at h1 h3 hn
    have hm1 : 0 ≤ min x y := by omega
    have hm2 : min x y ≤ x := by omega
    have hm3 : min x y ≤ y := by omega
    rw [loopM_succ,m39_L5,if_pos (by rw [h3]; simp; omega)]
    dsimp only
    rw [get_mid rfl,Option.bind_some,get_mid (by rw [h2]),Option.bind_some,letM_eq,Option.bind_some,Option.bind_some,minI,put_mid rfl,Option.bind_some,Option.bind_some,Option.bind_some,put_mid (by rw [h2]),Option.bind_some,letM_eq,wrap64 (x := x - min x y) (by omega) (by omega),wrap64 (x := y - min x y) (by omega) (by omega),wrap64 (by omega) (by omega)]
    have ih := m39_L5_val (N := N) (e := e) (k := k) ta tm (pa ++ [x - min x y]) (pm ++ [y - min x y]) n (by omega) (by simp; omega) (by simp; omega) h4 (fun z hz => h5 z (List.mem_cons_of_mem _ hz)) (fun z hz => h6 z (List.mem_cons_of_mem _ hz)) (by omega)
    simp only [List.append_assoc,List.singleton_append,List.length_append,List.length_singleton] at ih
    exact ih
theorem cutA_len {a m : List Int} (h : a.length = m.length) : (cutA a m).length = a.length := by simp [cutA,h]
theorem cutM_len {a m : List Int} (h : a.length = m.length) : (cutM a m).length = a.length := by simp [cutM,h]
theorem cutM_bd : ∀ {a m : List Int},bdA a → bdM m → bdM (cutM a m)
  | [],_,_,_ => by simp [cutM,bdM]
  | _ :: _,[],_,_ => by simp [cutM,bdM]
  | x :: a,y :: m,ha,hm => by
    have hx := ha x (by simp)
    have hy := hm y (by simp)
    intro z hz
    simp only [cutM,List.zipWith_cons_cons,List.mem_cons] at hz
    rcases hz with rfl | hz
    · omega
    · exact cutM_bd (fun w hw => ha w (List.mem_cons_of_mem _ hw)) (fun w hw => hm w (List.mem_cons_of_mem _ hw)) z hz
theorem m39_R_val {N K : Nat} (hK : K ≤ 1000) (hN : 1100 < N) {F : List Int × List R56 → Option (List R56 × Int)} : ∀ (es : List (List Int)) (m : List Int) (o : List R56),m.length = K → bdM m → (∀ a,a ∈ es → a.length = K ∧ bdA a) → o.length + es.length ≤ 1000000 →
    rangeL (m39_R4 N) es F (m,o) = F (es.foldl tst (m,o))
  | [],m,o,_,_,_,_ => rfl
  | a :: es,m,o,h1,h2,h3,h4 => by
    have ha := h3 a (by simp)
    simp only [List.length_cons] at h4
    rw [rangeL,List.foldl_cons]
    unfold m39_R4 jn
    have := fun k => m39_L5_val (N := N) (e := a) (k := k) a m [] [] N (by omega) rfl (by simp) (by omega) ha.2 h2 (by omega)
    simp only [List.nil_append,List.length_nil,Int.natCast_zero] at this
    dsimp only
    rw [this]
    dsimp only
    have hl : (cutA a m).length = K := by rw [cutA_len (by omega)]; exact ha.1
    rw [m61x1_eq,m61_val (by omega) (by omega),Option.bind_some]
    have e : tst (m,o) a = (cutM a m,if posL (cutA a m) = true then o ++ [⟨cutA a m,1⟩] else o) := rfl
    have nl : (cutM a m).length = K := by rw [cutM_len (by omega)]; exact ha.1
    cases hp : posL (cutA a m) with
    | true =>
      rw [if_pos rfl,apd_val (by simp; omega),Option.bind_some]
      have ih := m39_R_val hK hN (F := F) es (cutM a m) (o ++ [⟨cutA a m,1⟩]) nl (cutM_bd ha.2 h2) (fun b hb => h3 b (List.mem_cons_of_mem _ hb)) (by simp; omega)
      rw [e,hp,if_pos rfl]
      exact ih
    | false =>
      rw [if_neg (by simp)]
      have ih := m39_R_val hK hN (F := F) es (cutM a m) o nl (cutM_bd ha.2 h2) (fun b hb => h3 b (List.mem_cons_of_mem _ hb)) (by omega)
      rw [e,hp,if_neg (by simp)]
      exact ih
theorem m40_L13_val {N : Nat} {p : R23} {pd : List Int} {k : Bool × List Int × List Int → Option (List R56 × Int)} : ∀ (ta tr td pa pm pd : List Int) (any : Bool) (n : Nat),p.Dq = pd ++ td → ta.length = tr.length → ta.length = td.length → pa.length = pm.length → pa.length = pd.length → pa.length + ta.length ≤ 1000000 → bdA ta → bdM tr → bdA td → ta.length < n →
    loopM (m40_L13 N p k) n (any,(pa.length : Int),pm ++ addV tr td,pa ++ ta) = k (any || posL (cutA ta tr),pm ++ addV (cutM ta tr) td,pa ++ cutA ta tr)
  | [],[],[],pa,pm,pd,any,n + 1,h0,h1,h1',h2,h2',h3,h5,h6,h7,hn => by
    rw [loopM_succ,m40_L13,if_neg (by simp)]
    simp [addV,cutA,cutM,posL]
  | [],y :: tm,_,pa,pm,pd,any,n + 1,h0,h1,h1',h2,h2',h3,h5,h6,h7,hn => by simp at h1
  | [],[],d :: td,pa,pm,pd,any,n + 1,h0,h1,h1',h2,h2',h3,h5,h6,h7,hn => by simp at h1'
  | x :: ta,[],_,pa,pm,pd,any,n + 1,h0,h1,h1',h2,h2',h3,h5,h6,h7,hn => by simp at h1
  | x :: ta,y :: tm,[],pa,pm,pd,any,n + 1,h0,h1,h1',h2,h2',h3,h5,h6,h7,hn => by simp at h1'
  | x :: ta,y :: tm,d :: td,pa,pm,pd,any,n + 1,h0,h1,h1',h2,h2',h3,h5,h6,h7,hn => by
    have hx := h5 x (by simp)
    have hy := h6 y (by simp)
    have hd := h7 d (by simp)
    simp only [List.length_cons] at h1 h1' h3 hn
    have hm1 : 0 ≤ min x y := by omega
    have hm2 : min x y ≤ x := by omega
    have hm3 : min x y ≤ y := by omega
    have ev : addV (y :: tm) (d :: td) = (y + d) :: addV tm td := rfl
    have ew : IntKind.wrap .i64 ((y + d) - d) = y := by rw [wrap64 (by omega) (by omega)]; omega
    rw [loopM_succ,m40_L13,if_pos (by simp; omega),ev]
    dsimp only
    rw [get_mid rfl,Option.bind_some,get_mid (by rw [h2]),Option.bind_some,h0,get_mid (by rw [h2']),Option.bind_some,letM_eq,Option.bind_some,Option.bind_some,ew,minI,put_mid rfl,Option.bind_some,Option.bind_some,Option.bind_some,put_mid (by rw [h2]),Option.bind_some,wrap64 (x := x - min x y) (by omega) (by omega),wrap64 (x := y + d - min x y) (by omega) (by omega),get_mid rfl]
    have hany : (gdO (!any) (some (x - min x y)) default).bind = fun f : Int → Option (List R56 × Int) => f (if any = true then (default : Int) else (x - min x y)) := by
      cases any <;> rfl
    rw [hany]
    dsimp only
    rw [letM_eq,wrap64 (by omega) (by omega)]
    have hor : (any || decide ((0 : Int) < (if any = true then (default : Int) else (x - min x y)))) = (any || decide (0 < x - min x y)) := by cases any <;> rfl
    rw [hor]
    have ih := m40_L13_val (N := N) (p := p) (pd := pd) (k := k) ta tm td (pa ++ [x - min x y]) (pm ++ [y + d - min x y]) (pd ++ [d]) (any || decide (0 < x - min x y)) n (by rw [h0]; simp) (by omega) (by omega) (by simp; omega) (by simp; omega) (by simp; omega) (fun z hz => h5 z (List.mem_cons_of_mem _ hz)) (fun z hz => h6 z (List.mem_cons_of_mem _ hz)) (fun z hz => h7 z (List.mem_cons_of_mem _ hz)) (by omega)
    simp only [List.append_assoc,List.singleton_append,List.length_append,List.length_singleton] at ih
    have e1 : posL (cutA (x :: ta) (y :: tm)) = (decide (0 < x - min x y) || posL (cutA ta tm)) := rfl
    have e2 : cutA (x :: ta) (y :: tm) = (x - min x y) :: cutA ta tm := rfl
    have e3 : addV (cutM (x :: ta) (y :: tm)) (d :: td) = (y + d - min x y) :: addV (cutM ta tm) td := by
      show (y - min x y + d) :: addV (cutM ta tm) td = _
      rw [show y - min x y + d = y + d - min x y by omega]
    rw [e1,e2,e3,← Bool.or_assoc]
    exact ih
end Go.AB
