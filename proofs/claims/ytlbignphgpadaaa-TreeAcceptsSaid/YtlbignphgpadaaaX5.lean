/-
  A part of the proof: PA, PB, PC.
-/
import Derived.Test.YtlbignphgpadaaaX4
section
/-
  PURE A: what the printed functions on automata and trees compute: validity of automata and of trees.
-/
set_option linter.unusedVariables false
set_option linter.unusedSimpArgs false
namespace Go.Lite.Fam
open Go Go.Lite

abbrev Aut := T_api_TreeAutomaton
def okA (A : Aut) (q : Int) : Bool := decide (0 ≤ q ∧ q < A.2.1)
def okX (A : Aut) (x : Int) : Bool := decide (0 ≤ x ∧ x < A.1)
def okL (A : Aut) (l : T_api_Leaf) : Bool := okX A l.1 && okA A l.2.1
def okB (A : Aut) (b : T_api_Branch) : Bool := okX A b.1 && okA A b.2.1 && okA A b.2.2.1 && okA A b.2.2.2.1
def okTop (A : Aut) : Bool := decide (1 ≤ A.1 ∧ A.1 ≤ 8 ∧ 0 ≤ A.2.1 ∧ A.2.1 ≤ 64)
/-- Is the automaton valid? -/
def okAut (A : Aut) : Bool := okTop A && A.2.2.1.all (okA A) && A.2.2.2.1.all (okL A) && A.2.2.2.2.1.all (okB A)
def errA (A : Aut) : Int := if okAut A = true then 0 else 1
/-- Lists that are not too long. -/
def small (A : Aut) : Prop := A.2.2.1.length < 4611686018427387904 ∧ A.2.2.2.1.length < 4611686018427387904 ∧ A.2.2.2.2.1.length < 4611686018427387904

theorem val2 {n : Int} {A : Aut} : tree_Validate_2 n A.1 A.2.1 A.2.2.1 A.2.2.2.1 A.2.2.2.2.1 = some (okA A n) := by
  unfold tree_Validate_2 tree_Validate_2_q1 okA
  by_cases h : (0 : Int) ≤ n <;> simp [h]
theorem val1 {n : Int} {A : Aut} : tree_Validate_1 n A.1 A.2.1 A.2.2.1 A.2.2.2.1 A.2.2.2.2.1 = some (okX A n) := by
  unfold tree_Validate_1 tree_Validate_1_q1 okX
  by_cases h : (0 : Int) ≤ n <;> simp [h]

theorem tree_Validate_eq {A : Aut} (hs : small A) : tree_Validate A = some (errA A) := by
  obtain ⟨h1, h2, h3⟩ := hs
  have la := loop_all (body := tree_Validate_l6 A) A.2.2.1 (okA A) () (1 : Int) h1 (fun i h => by
    simp only [tree_Validate_l6, ltIf h, gdIx h, if_true, getDi h, val2, Option.bind_some]
    rcases Bool.eq_false_or_eq_true (okA A A.2.2.1[i]) with e0 | e0 <;> simp [e0]) (by simp [tree_Validate_l6])
  have ll := loop_all (body := tree_Validate_l12 A) A.2.2.2.1 (okL A) () (1 : Int) h2 (fun i h => by
    simp only [tree_Validate_l12, ltIf h, gdIx h, if_true, getDi h, val1, val2, Option.bind_some, tree_Validate_q14, okL]
    rcases Bool.eq_false_or_eq_true (okX A A.2.2.2.1[i].1) with e0 | e0 <;> rcases Bool.eq_false_or_eq_true (okA A A.2.2.2.1[i].2.1) with e1 | e1 <;> simp [e0, e1]) (by simp [tree_Validate_l12])
  have lb := loop_all (body := tree_Validate_l18 A) A.2.2.2.2.1 (okB A) () (1 : Int) h3 (fun i h => by
    simp only [tree_Validate_l18, ltIf h, gdIx h, if_true, getDi h, val1, val2, Option.bind_some, tree_Validate_q20, okB]
    rcases Bool.eq_false_or_eq_true (okX A A.2.2.2.2.1[i].1) with e0 | e0 <;> rcases Bool.eq_false_or_eq_true (okA A A.2.2.2.2.1[i].2.1) with e1 | e1 <;> rcases Bool.eq_false_or_eq_true (okA A A.2.2.2.2.1[i].2.2.1) with e2 | e2 <;> rcases Bool.eq_false_or_eq_true (okA A A.2.2.2.2.1[i].2.2.2.1) with e3 | e3 <;> simp [e0, e1, e2, e3]) (by simp [tree_Validate_l18])
  have q : ∀ b, b = !okTop A → tree_Validate_q1 A b = some (errA A) := by
    intro b hb
    subst hb
    unfold tree_Validate_q1 errA okAut
    rw [la, ll, lb]
    cases okTop A <;> cases A.2.2.1.all (okA A) <;> cases A.2.2.2.1.all (okL A) <;> cases A.2.2.2.2.1.all (okB A) <;> rfl
  unfold tree_Validate
  by_cases e1 : A.1 < 1
  · rw [if_pos (by simpa using e1), q true (by simp [okTop]; omega)]
  · rw [if_neg (by simpa using e1)]
    by_cases e2 : A.1 > 8
    · rw [if_pos (by simpa using e2), q true (by simp [okTop]; omega)]
    · rw [if_neg (by simpa using e2)]
      by_cases e3 : A.2.1 < 0
      · rw [if_pos (by simpa using e3), q true (by simp [okTop]; omega)]
      · rw [if_neg (by simpa using e3), q _ (by rw [Bool.eq_iff_iff]; simp [okTop]; omega)]

theorem within_eq {n lo hi : Int} : ref07_within n lo hi = some (decide (lo ≤ n ∧ n ≤ hi)) := by
  unfold ref07_within ref07_within_q1
  by_cases h : lo ≤ n <;> simp [h]
theorem within0 {n m : Int} (hm : 0 ≤ m) (hm2 : m ≤ 64) : ref07_within n 0 (IntKind.i64.wrap (m - 1)) = some (decide (0 ≤ n ∧ n < m)) := by
  rw [within_eq, wrap64 (by omega) (by omega)]
  congr 1
  rw [Bool.eq_iff_iff]
  simp; omega

theorem ref07_Validate_eq {A : Aut} (hs : small A) : ref07_Validate A = some (errA A) := by
  obtain ⟨h1, h2, h3⟩ := hs
  unfold ref07_Validate
  simp only [within_eq, Option.bind_some]
  cases ht : okTop A with
  | false =>
    have he : errA A = 1 := by simp [errA, okAut, ht]
    rw [he]
    simp only [okTop, decide_eq_false_iff_not] at ht
    by_cases e : 1 ≤ A.1 ∧ A.1 ≤ 8
    · simp only [e, and_self, decide_true, Bool.not_true, Bool.false_eq_true, if_false, ref07_Validate_q1]
      rw [if_pos (by simp; omega)]
    · simp only [e, decide_false, Bool.not_false, if_true, ref07_Validate_q1]
  | true =>
    have ht' := ht
    simp only [okTop, decide_eq_true_eq] at ht'
    obtain ⟨t1, t2, t3, t4⟩ := ht'
    have wX : ∀ n, ref07_within n 0 (IntKind.i64.wrap (A.1 - 1)) = some (okX A n) := fun n => within0 (by omega) (by omega)
    have wA : ∀ n, ref07_within n 0 (IntKind.i64.wrap (A.2.1 - 1)) = some (okA A n) := fun n => within0 (by omega) (by omega)
    have la := loop_all (body := ref07_Validate_l4 A) A.2.2.1 (okA A) () (1 : Int) h1 (fun i h => by
      simp only [ref07_Validate_l4, ltIf h, gdIx h, if_true, getDi h, wA, Option.bind_some]
      rcases Bool.eq_false_or_eq_true (okA A A.2.2.1[i]) with e0 | e0 <;> simp [e0]) (by simp [ref07_Validate_l4])
    have ll := loop_all (body := ref07_Validate_l9 A) A.2.2.2.1 (okL A) () (1 : Int) h2 (fun i h => by
      simp only [ref07_Validate_l9, ltIf h, gdIx h, if_true, getDi h, wX, wA, Option.bind_some, ref07_Validate_q11, okL]
      rcases Bool.eq_false_or_eq_true (okX A A.2.2.2.1[i].1) with e0 | e0 <;> rcases Bool.eq_false_or_eq_true (okA A A.2.2.2.1[i].2.1) with e1 | e1 <;> simp [e0, e1]) (by simp [ref07_Validate_l9])
    have lb := loop_all (body := ref07_Validate_l14 A) A.2.2.2.2.1 (okB A) () (1 : Int) h3 (fun i h => by
      simp only [ref07_Validate_l14, ltIf h, gdIx h, if_true, getDi h, wX, wA, Option.bind_some, ref07_Validate_q17, okB]
      rcases Bool.eq_false_or_eq_true (okX A A.2.2.2.2.1[i].1) with e0 | e0 <;> rcases Bool.eq_false_or_eq_true (okA A A.2.2.2.2.1[i].2.1) with e1 | e1 <;> rcases Bool.eq_false_or_eq_true (okA A A.2.2.2.2.1[i].2.2.1) with e2 | e2 <;> rcases Bool.eq_false_or_eq_true (okA A A.2.2.2.2.1[i].2.2.2.1) with e3 | e3 <;> simp [e0, e1, e2, e3]) (by simp [ref07_Validate_l14])
    have d1 : decide (1 ≤ A.1 ∧ A.1 ≤ 8) = true := by simp; omega
    have d2 : decide (0 ≤ A.2.1 ∧ A.2.1 ≤ 64) = true := by simp; omega
    simp only [d1, d2, Bool.not_true, Bool.false_eq_true, if_false, ref07_Validate_q1]
    unfold errA okAut
    rw [la, ll, lb, ht]
    cases A.2.2.1.all (okA A) <;> cases A.2.2.2.1.all (okL A) <;> cases A.2.2.2.2.1.all (okB A) <;> rfl

/-! ### Trees -/
def shapeStep (o : Option Int) (c : Int) : Option Int := match o with
  | some op => if op = 0 ∨ (c ≠ 0 ∧ c ≠ 2) then none else some (op + (c - 1))
  | none => none
/-- How many subtrees are still to come. -/
def shapeRun (l : List Int) : Option Int := l.foldl shapeStep (some 1)
def shapeOk (l : List Int) : Bool := match shapeRun l with
  | some op => op == 0
  | none => false
def okLab (letters x : Int) : Bool := decide (0 ≤ x ∧ x < letters)
def okTree (letters : Int) (shape labels : List Int) : Bool := decide (1 ≤ shape.length ∧ shape.length ≤ 4095 ∧ labels.length = shape.length) && shapeOk shape && labels.all (okLab letters)
theorem shape_none : ∀ l : List Int, l.foldl shapeStep none = none
  | [] => rfl
  | _ :: l => shape_none l
theorem shapeRun_take {l : List Int} {i : Nat} (hi : i < l.length) : shapeRun (l.take (i + 1)) = shapeStep (shapeRun (l.take i)) l[i] := foldlT _ _ _ _ hi
theorem shapeRun_split {l : List Int} (i : Nat) : shapeRun l = (l.drop i).foldl shapeStep (shapeRun (l.take i)) := by
  unfold shapeRun
  rw [← List.foldl_append, List.take_append_drop]
theorem shapeRun_fail {l : List Int} {i : Nat} {op : Int} (hi : i < l.length) (h : shapeRun (l.take i) = some op) (hc : op = 0 ∨ (l[i] ≠ 0 ∧ l[i] ≠ 2)) : shapeRun l = none := by
  have h1 : shapeRun (l.take (i + 1)) = none := by rw [shapeRun_take hi, h]; simp [shapeStep, hc]
  rw [shapeRun_split (i + 1), h1, shape_none]
/-- The states of the run. -/
theorem shapeRun_bound : ∀ (l : List Int) (op : Int), shapeRun l = some op → 0 ≤ op ∧ op ≤ l.length + 1 := by
  intro l
  have key : ∀ i, i ≤ l.length → ∀ op, shapeRun (l.take i) = some op → 0 ≤ op ∧ op ≤ i + 1 := by
    intro i
    induction i with
    | zero => intro _ op h; simp [shapeRun] at h; omega
    | succ i ih =>
      intro hi op h
      rw [shapeRun_take hi] at h
      cases ho : shapeRun (l.take i) with
      | none => rw [ho] at h; cases h
      | some o =>
        rw [ho] at h
        have hb := ih (by omega) o ho
        simp only [shapeStep] at h
        split at h
        · cases h
        · injection h with h
          omega
  intro op h
  have := key l.length (Nat.le_refl _) op (by rwa [List.take_length])
  omega

/-- One pass over a shape: the loop of the code, where 'no' is what it says of a bad node. -/
theorem shape_loop {γ : Type} {body : (Int × Int) → Option ((Int × Int) ⊕ (Int ⊕ γ))} (sh : List Int) (hl : sh.length < 4611686018427387904) (bad : γ) (ok : Nat → Bool)
    (hs : ∀ (i : Nat) (op : Int) (h : i < sh.length), 0 ≤ op → op ≤ i + 1 → body (op, (i : Int)) = if (op = 0 ∨ (sh[i] ≠ 0 ∧ sh[i] ≠ 2)) ∨ ok i = false then some (.inr (.inr bad)) else some (.inl (op + (sh[i] - 1), IntKind.i64.wrap ((i : Int) + 1)))) (he : ∀ op, body (op, (sh.length : Nat)) = some (.inr (.inl op))) :
    loopP body (1, 0) = some (match shapeRun sh with | some op => if ∀ i, i < sh.length → ok i = true then .inl op else .inr bad | none => .inr bad) := by
  obtain ⟨e, h1, h2⟩ := loop_inv (body := body) (Inv := fun x => ∃ i : Nat, i ≤ sh.length ∧ x.2 = (i : Int) ∧ shapeRun (sh.take i) = some x.1 ∧ ∀ j, j < i → ok j = true) (Post := fun e => e = match shapeRun sh with | some op => if ∀ i, i < sh.length → ok i = true then .inl op else .inr bad | none => .inr bad)
    (fun x => sh.length - x.2.toNat) (by
      rintro ⟨op, x2⟩ ⟨i, hi, rfl, hrun, hok⟩
      simp only at hrun
      have hb := shapeRun_bound _ _ hrun
      rw [List.length_take] at hb
      by_cases hlt : i < sh.length
      · rw [hs i op hlt hb.1 (by omega)]
        by_cases hc : op = 0 ∨ (sh[i] ≠ 0 ∧ sh[i] ≠ 2)
        · right
          rw [if_pos (.inl hc)]
          exact ⟨_, rfl, by rw [shapeRun_fail hlt hrun hc]⟩
        · cases hk : ok i with
          | false =>
            right
            rw [if_pos (.inr rfl)]
            refine ⟨_, rfl, ?_⟩
            split
            · rw [if_neg]; intro h; rw [h i hlt] at hk; cases hk
            · rfl
          | true =>
            left
            rw [if_neg (by simp only [Bool.true_eq_false, or_false]; exact hc)]
            refine ⟨_, rfl, ⟨i + 1, hlt, wrapS (by omega), ?_, fun j hj => ?_⟩, ?_⟩
            · simp only [shapeRun_take hlt, hrun, shapeStep, if_neg hc]
            · by_cases hji : j = i
              · subst hji; exact hk
              · exact hok j (by omega)
            · simp only; rw [wrapS (by omega)]; omega
      · right
        have : i = sh.length := by omega
        subst this
        rw [he]
        refine ⟨_, rfl, ?_⟩
        rw [List.take_length] at hrun
        rw [hrun]
        simp only
        rw [if_pos hok]) (1, 0) ⟨0, Nat.zero_le _, rfl, rfl, fun j hj => by omega⟩
  rw [h1, h2]

theorem isShape_eq {sh : List Int} (hl : sh.length < 4611686018427387904) : ref03_IsShape sh = some (shapeOk sh) := by
  unfold ref03_IsShape
  rw [shape_loop (body := ref03_IsShape_l3 sh) sh hl false (fun _ => true) (fun i op h h0 h1 => by
    simp only [ref03_IsShape_l3, ltIf h, gdIx h, if_true, getDi h, ref03_IsShape_q5]
    by_cases e1 : op = 0
    · simp [e1]
    · by_cases e2 : sh[i] = 0
      · simp only [e1, e2, beq_iff_eq, if_false, bne_self_eq_false, Bool.false_eq_true, ne_eq, not_true_eq_false, false_and, or_self, Bool.true_eq_false]
        rw [wrap64 (n := (0 : Int) - 1) (by omega) (by omega), wrap64 (by omega) (by omega)]
      · by_cases e3 : sh[i] = 2
        · simp only [e1, e3, beq_iff_eq, if_false, bne_self_eq_false, Bool.false_eq_true, ne_eq, not_true_eq_false, and_false, or_self, Bool.true_eq_false]
          rw [wrap64 (n := (2 : Int) - 1) (by omega) (by omega), wrap64 (by omega) (by omega)]
          simp
        · simp [e1, e2, e3]) (fun op => by simp [ref03_IsShape_l3])]
  unfold shapeOk
  cases shapeRun sh <;> simp

theorem labs_loop {β : Type} (x : Int) (lb : List Int) : (∀ i, i < lb.length → (okLab x (lb.getD i 0)) = true) ↔ lb.all (okLab x) = true := by
  rw [List.all_eq_true]
  constructor
  · intro h y hy
    obtain ⟨i, hi, rfl⟩ := List.getElem_of_mem hy
    have := h i hi
    rwa [getDn hi] at this
  · intro h i hi
    rw [getDn hi]
    exact h _ (List.getElem_mem hi)

theorem refTree_eq {x : Int} {sh lb : List Int} (hs : sh.length < 4611686018427387904) (hl : lb.length < 4611686018427387904) : ref07_ValidTree x sh lb = some (okTree x sh lb) := by
  unfold ref07_ValidTree
  have ll := loop_all (body := ref07_ValidTree_l4 x lb) lb (okLab x) () false hl (fun i h => by
    simp only [ref07_ValidTree_l4, ltIf h, gdIx h, if_true, getDi h, ref07_ValidTree_q6, okLab]
    by_cases e1 : lb[i] < 0
    · simp [e1] <;> omega
    · by_cases e2 : lb[i] ≥ x
      · simp [e1, e2] <;> omega
      · simp [e1, e2] <;> omega) (by simp [ref07_ValidTree_l4])
  rw [within_eq, isShape_eq hs]
  simp only [Option.bind_some]
  unfold okTree
  by_cases e1 : 1 ≤ sh.length ∧ sh.length ≤ 4095
  · have e1' : (1 ≤ (sh.length : Int) ∧ (sh.length : Int) ≤ 4095) := by omega
    simp only [e1', and_self, decide_true, Bool.not_true, Bool.false_eq_true, if_false]
    by_cases e2 : lb.length = sh.length
    · simp only [e2, bne_self_eq_false, Bool.false_eq_true, if_false, ref07_ValidTree_q1, e1, and_self, decide_true, Bool.true_and]
      rw [ll]
      cases shapeOk sh <;> cases lb.all (okLab x) <;> rfl
    · have e2' : ((lb.length : Nat) : Int) ≠ ((sh.length : Nat) : Int) := by omega
      simp [e2, e2', ref07_ValidTree_q1]
  · have e1' : ¬ (1 ≤ (sh.length : Int) ∧ (sh.length : Int) ≤ 4095) := by omega
    have e3 : ¬ (1 ≤ sh.length ∧ sh.length ≤ 4095 ∧ lb.length = sh.length) := by omega
    simp only [e1', e3, decide_false, Bool.not_false, if_true, ref07_ValidTree_q1, Bool.false_and]

theorem validTree_eq {x : Int} {sh lb : List Int} (hs : sh.length < 4611686018427387904) (hl : lb.length < 4611686018427387904) : tree_ValidTree x sh lb = some (okTree x sh lb) := by
  unfold tree_ValidTree
  by_cases e1 : 1 ≤ sh.length ∧ sh.length ≤ 4095 ∧ lb.length = sh.length
  · obtain ⟨a1, a2, a3⟩ := e1
    rw [if_neg (by simp; omega), if_neg (by simp; omega)]
    have e4 : (((lb.length : Nat) : Int) != ((sh.length : Nat) : Int)) = false := by simp; omega
    rw [e4]
    unfold tree_ValidTree_q1
    rw [if_neg (by simp)]
    rw [shape_loop (body := tree_ValidTree_l5 x sh lb) sh hs false (fun i => okLab x (lb.getD i 0)) (fun i op h h0 h1 => by
      have h2 : i < lb.length := by omega
      simp only [tree_ValidTree_l5, ltIf h, gdIx h, if_true, gdIx h2, getDi h, getDi h2, getDn h2, tree_ValidTree_q7, okLab]
      by_cases e1 : op = 0
      · simp [e1]
      · by_cases e2 : sh[i] = 0
        · by_cases e4 : lb[i] < 0
          · simp [e1, e2, e4]; omega
          · by_cases e5 : lb[i] ≥ x
            · have : ¬ lb[i] < x := by omega
              simp [e1, e2, e4, e5, this]
            · have h5 : 0 ≤ lb[i] := by omega
              have h6 : lb[i] < x := by omega
              simp only [e1, e2, e4, e5, h5, h6, beq_iff_eq, if_false, bne_self_eq_false, Bool.false_eq_true, ne_eq, not_true_eq_false, false_and, or_self, Bool.true_eq_false, decide_false, and_self, decide_true, gt_iff_lt]
              rw [wrap64 (n := (0 : Int) - 1) (by omega) (by omega), wrap64 (by omega) (by omega)]
        · by_cases e3 : sh[i] = 2
          · by_cases e4 : lb[i] < 0
            · simp [e1, e2, e3, e4]; omega
            · by_cases e5 : lb[i] ≥ x
              · have : ¬ lb[i] < x := by omega
                simp [e1, e2, e3, e4, e5, this]
              · have h5 : 0 ≤ lb[i] := by omega
                have h6 : lb[i] < x := by omega
                have h7 : ((2 : Int) != 0) = true := rfl
                simp only [e1, e3, e4, e5, h5, h6, h7, beq_iff_eq, if_false, if_true, bne_self_eq_false, Bool.false_eq_true, ne_eq, not_true_eq_false, and_false, or_self, Bool.true_eq_false, decide_false, and_self, decide_true, gt_iff_lt]
                rw [wrap64 (n := (2 : Int) - 1) (by omega) (by omega), wrap64 (by omega) (by omega)]
          · simp [e1, e2, e3]) (fun op => by simp [tree_ValidTree_l5])]
    have key : (∀ i, i < sh.length → okLab x (lb.getD i 0) = true) ↔ lb.all (okLab x) = true := by rw [← a3]; exact labs_loop (β := Unit) x lb
    unfold okTree shapeOk
    have hd : decide (1 ≤ sh.length ∧ sh.length ≤ 4095 ∧ lb.length = sh.length) = true := by simp; omega
    rw [hd]
    cases shapeRun sh with
    | none => simp
    | some op =>
      simp only
      by_cases hk : lb.all (okLab x) = true
      · rw [if_pos (key.2 hk), hk]; simp
      · have hk' : lb.all (okLab x) = false := by simpa using hk
        rw [if_neg (fun h => hk (key.1 h)), hk']; simp
  · have hf : okTree x sh lb = false := by simp only [okTree, e1, decide_false, Bool.false_and]
    rw [hf]
    by_cases a1 : (sh.length : Int) < 1
    · rw [if_pos (by simpa using a1)]; rfl
    · rw [if_neg (by simpa using a1)]
      by_cases a2 : (sh.length : Int) > 4095
      · rw [if_pos (by simpa using a2)]; rfl
      · rw [if_neg (by simpa using a2)]
        have e4 : (((lb.length : Nat) : Int) != ((sh.length : Nat) : Int)) = true := by simp; omega
        rw [e4]; rfl
end Go.Lite.Fam
end

section
/-
  PURE B: which trees an automaton accepts: the code's answer and the document's are one.
-/
set_option linter.unusedVariables false
set_option linter.unusedSimpArgs false
namespace Go.Lite.Fam
open Go Go.Lite

/-! ### Sets of states -/
/-- A number and a list of marks for the same set. -/
def Same (n : Nat) (s : Int) (m : List Bool) : Prop := (0 ≤ s ∧ s < 18446744073709551616) ∧ m.length = n ∧ ∀ q, q < n → bitAt s q = m.getD q false
theorem same_zero {n : Nat} : Same n 0 (List.replicate n false) := by
  refine ⟨⟨by decide, by decide⟩, by simp, fun q hq => ?_⟩
  rw [getDn (by simpa using hq)]
  simp [bitAt]
theorem same_set {n : Nat} {s : Int} {m : List Bool} {q : Int} (h : Same n s m) (h0 : 0 ≤ q) (hq : q < n) (hn : n ≤ 64) : Same n (bitsInt .or .u64 s (IntKind.u64.wrap (1 * 2 ^ min q.toNat 64))) (m.set q.toNat true) := by
  obtain ⟨hs, hl, hb⟩ := h
  obtain ⟨h1, h2⟩ := orBit (q := q.toNat) hs.1 hs.2 (by omega)
  refine ⟨h1, by simpa using hl, fun p hp => ?_⟩
  rw [h2, hb p hp, getDn (by omega), getDn (by simpa using (by omega : p < m.length)), List.getElem_set]
  by_cases e : q.toNat = p
  · subst e; simp
  · rw [if_neg e]
    have : (p == q.toNat) = false := by simp; omega
    rw [this, Bool.or_false]

def leafStep (x : Int) (s : Int) (l : T_api_Leaf) : Int := if (l.1 == x) = true then bitsInt .or .u64 s (IntKind.u64.wrap (1 * 2 ^ min l.2.1.toNat 64)) else s
def leafMark (x : Int) (m : List Bool) (l : T_api_Leaf) : List Bool := if (l.1 == x) = true then m.set l.2.1.toNat true else m
def leafBits (A : Aut) (x : Int) : Int := A.2.2.2.1.foldl (leafStep x) 0
def leafMarks (A : Aut) (x : Int) : List Bool := A.2.2.2.1.foldl (leafMark x) (List.replicate A.2.1.toNat false)
def branchHit (x : Int) (f s : Nat → Bool) (b : T_api_Branch) : Bool := (b.1 == x) && f b.2.1.toNat && s b.2.2.1.toNat
def branchStep (x f g : Int) (s : Int) (b : T_api_Branch) : Int := if branchHit x (bitAt f) (bitAt g) b = true then bitsInt .or .u64 s (IntKind.u64.wrap (1 * 2 ^ min b.2.2.2.1.toNat 64)) else s
def branchMark (x : Int) (f g : List Bool) (m : List Bool) (b : T_api_Branch) : List Bool := if branchHit x (fun q => f.getD q false) (fun q => g.getD q false) b = true then m.set b.2.2.2.1.toNat true else m
def branchBits (A : Aut) (x f g : Int) : Int := A.2.2.2.2.1.foldl (branchStep x f g) 0
def branchMarks (A : Aut) (x : Int) (f g : List Bool) : List Bool := A.2.2.2.2.1.foldl (branchMark x f g) (List.replicate A.2.1.toNat false)

structure Ok (A : Aut) : Prop where
  top : 1 ≤ A.1 ∧ A.1 ≤ 8 ∧ 0 ≤ A.2.1 ∧ A.2.1 ≤ 64
  acc : ∀ q ∈ A.2.2.1, 0 ≤ q ∧ q < A.2.1
  leaf : ∀ l ∈ A.2.2.2.1, (0 ≤ l.1 ∧ l.1 < A.1) ∧ 0 ≤ l.2.1 ∧ l.2.1 < A.2.1
  branch : ∀ b ∈ A.2.2.2.2.1, (0 ≤ b.1 ∧ b.1 < A.1) ∧ (0 ≤ b.2.1 ∧ b.2.1 < A.2.1) ∧ (0 ≤ b.2.2.1 ∧ b.2.2.1 < A.2.1) ∧ 0 ≤ b.2.2.2.1 ∧ b.2.2.2.1 < A.2.1
theorem ok_of {A : Aut} (h : okAut A = true) : Ok A := by
  simp only [okAut, okTop, Bool.and_eq_true, decide_eq_true_eq, List.all_eq_true, okA, okL, okB, okX] at h
  obtain ⟨⟨⟨h1, h2⟩, h3⟩, h4⟩ := h
  exact ⟨h1, h2, fun l hl => ⟨(h3 l hl).1, (h3 l hl).2⟩, fun b hb => ⟨(h4 b hb).1.1.1, (h4 b hb).1.1.2, (h4 b hb).1.2, (h4 b hb).2⟩⟩

theorem fold_same {α : Type} {n : Nat} {f : Int → α → Int} {g : List Bool → α → List Bool} : ∀ (l : List α) (s : Int) (m : List Bool), Same n s m → (∀ a ∈ l, ∀ s m, Same n s m → Same n (f s a) (g m a)) → Same n (l.foldl f s) (l.foldl g m)
  | [], s, m, h, _ => h
  | a :: l, s, m, h, hs => fold_same l _ _ (hs a (by simp) s m h) (fun b hb => hs b (by simp [hb]))
theorem leaf_same {A : Aut} (h : Ok A) (x : Int) : Same A.2.1.toNat (leafBits A x) (leafMarks A x) := by
  obtain ⟨_, _, t3, t4⟩ := h.top
  refine fold_same _ _ _ same_zero (fun l hl s m hs => ?_)
  obtain ⟨_, h2, h3⟩ := h.leaf l hl
  unfold leafStep leafMark
  split
  · exact same_set hs h2 (by omega) (by omega)
  · exact hs
theorem branch_same {A : Aut} (h : Ok A) (x : Int) {f g : Int} {f' g' : List Bool} (hf : Same A.2.1.toNat f f') (hg : Same A.2.1.toNat g g') : Same A.2.1.toNat (branchBits A x f g) (branchMarks A x f' g') := by
  obtain ⟨_, _, t3, t4⟩ := h.top
  refine fold_same _ _ _ same_zero (fun b hb s m hs => ?_)
  obtain ⟨_, ⟨h1, h2⟩, ⟨h3, h4⟩, h5, h6⟩ := h.branch b hb
  have e : branchHit x (bitAt f) (bitAt g) b = branchHit x (fun q => f'.getD q false) (fun q => g'.getD q false) b := by
    unfold branchHit
    rw [hf.2.2 _ (by omega), hg.2.2 _ (by omega)]
  unfold branchStep branchMark
  rw [e]
  split
  · exact same_set hs h5 (by omega) (by omega)
  · exact hs

theorem inv_fold {α σ : Type} {f : σ → α → σ} {P : σ → Prop} : ∀ (l : List α) (s : σ), P s → (∀ a ∈ l, ∀ s, P s → P (f s a)) → P (l.foldl f s)
  | [], s, h, _ => h
  | a :: l, s, h, hs => inv_fold l _ (hs a (by simp) s h) (fun b hb => hs b (by simp [hb]))

section
variable {A : Aut} (hs : small A) (h : Ok A)
include hs h
theorem leafSet_eq (x : Int) : tree_leafSet A x = some (leafBits A x) := by
  unfold tree_leafSet
  rw [(loop_fold (body := tree_leafSet_l3 A x) A.2.2.2.1 (leafStep x) (fun s i => (s, i)) id (fun _ _ => True) (s0 := (0 : Int)) hs.2.1 trivial (fun i s hi _ => ⟨by
    obtain ⟨_, h2, h3⟩ := h.leaf _ (List.getElem_mem hi)
    simp only [tree_leafSet_l3, ltIf hi, gdIx hi, getDi hi, gd_pos h2, tree_leafSet_j7, leafStep]
    split <;> rfl, trivial⟩) (fun s _ => by simp only [tree_leafSet_l3, ltEnd, id])).1]
  rfl
theorem branchSet_eq (x : Int) {f g : Int} (hf : 0 ≤ f ∧ f < 18446744073709551616) (hg : 0 ≤ g ∧ g < 18446744073709551616) : tree_branchSet A x f g = some (branchBits A x f g) := by
  unfold tree_branchSet
  rw [(loop_fold (body := tree_branchSet_l3 A x f g) A.2.2.2.2.1 (branchStep x f g) (fun s i => (s, i)) id (fun _ _ => True) (s0 := (0 : Int)) hs.2.2 trivial (fun i s hi _ => ⟨by
    obtain ⟨_, ⟨h1, h2⟩, ⟨h3, h4⟩, h5, h6⟩ := h.branch _ (List.getElem_mem hi)
    obtain ⟨_, _, t3, t4⟩ := h.top
    simp only [tree_branchSet_l3, ltIf hi, gdIx hi, getDi hi, gd_pos h1, gd_pos h3, gd_pos h5, tree_branchSet_j7, tree_branchSet_q5, branchStep, branchHit]
    rw [andOne hf.1 hf.2 (by omega), andOne hg.1 hg.2 (by omega)]
    rcases Bool.eq_false_or_eq_true (A.2.2.2.2.1[i].1 == x) with e0 | e0 <;> rcases Bool.eq_false_or_eq_true (bitAt f A.2.2.2.2.1[i].2.1.toNat) with e1 | e1 <;> rcases Bool.eq_false_or_eq_true (bitAt g A.2.2.2.2.1[i].2.2.1.toNat) with e2 | e2 <;> simp [e0, e1, e2], trivial⟩) (fun s _ => by simp only [tree_branchSet_l3, ltEnd, id])).1]
  rfl
theorem leaf_eq (x : Int) : ref07_leaf A x = some (leafMarks A x) := by
  obtain ⟨_, _, t3, t4⟩ := h.top
  unfold ref07_leaf
  rw [gd_pos ⟨t3, by omega, by omega⟩]
  have := loop_fold (body := ref07_leaf_l3 A x) A.2.2.2.1 (leafMark x) (fun s i => (s, i)) id (fun _ s => s.length = A.2.1.toNat) (s0 := List.replicate A.2.1.toNat false) hs.2.1 (by simp) (fun i s hi hl => ⟨by
    obtain ⟨_, h2, h3⟩ := h.leaf _ (List.getElem_mem hi)
    simp only [ref07_leaf_l3, ltIf hi, gdIx hi, getDi hi, gd_pos (And.intro h2 h3), ref07_leaf_j4, leafMark]
    split <;> rfl, by unfold leafMark; split <;> simpa using hl⟩) (fun s _ => by simp only [ref07_leaf_l3, ltEnd, id])
  rw [this.1]
  show some ((leafMarks A x).take A.2.1.toNat) = _
  rw [List.take_of_length_le (by rw [leafMarks]; exact Nat.le_of_eq this.2)]
theorem branch_eq (x : Int) {f g : List Bool} (hf : f.length = A.2.1.toNat) (hg : g.length = A.2.1.toNat) : ref07_branch A x f g = some (branchMarks A x f g) := by
  obtain ⟨_, _, t3, t4⟩ := h.top
  unfold ref07_branch
  rw [gd_pos ⟨t3, by omega, by omega⟩]
  have := loop_fold (body := ref07_branch_l3 A x f g) A.2.2.2.2.1 (branchMark x f g) (fun s i => (s, i)) id (fun _ s => s.length = A.2.1.toNat) (s0 := List.replicate A.2.1.toNat false) hs.2.2 (by simp) (fun i s hi hl => ⟨by
    obtain ⟨_, ⟨h1, h2⟩, ⟨h3, h4⟩, h5, h6⟩ := h.branch _ (List.getElem_mem hi)
    have b1 : 0 ≤ A.2.2.2.2.1[i].2.1 ∧ A.2.2.2.2.1[i].2.1 < (f.length : Nat) := ⟨h1, by omega⟩
    have b2 : 0 ≤ A.2.2.2.2.1[i].2.2.1 ∧ A.2.2.2.2.1[i].2.2.1 < (g.length : Nat) := ⟨h3, by omega⟩
    simp only [ref07_branch_l3, ltIf hi, gdIx hi, getDi hi, gd_pos b1, gd_pos b2, gd_pos (And.intro h5 h6), ref07_branch_j4, ref07_branch_q6, branchMark, branchHit]
    rcases Bool.eq_false_or_eq_true (A.2.2.2.2.1[i].1 == x) with e0 | e0 <;> rcases Bool.eq_false_or_eq_true (f.getD A.2.2.2.2.1[i].2.1.toNat false) with e1 | e1 <;> rcases Bool.eq_false_or_eq_true (g.getD A.2.2.2.2.1[i].2.2.1.toNat false) with e2 | e2 <;> simp only [e0, e1, e2, if_true, Bool.false_eq_true, if_false, Bool.and_true, Bool.and_false, Bool.true_and, Bool.false_and], by unfold branchMark; split <;> simpa using hl⟩) (fun s _ => by simp only [ref07_branch_l3, ltEnd, id])
  rw [this.1]
  show some ((branchMarks A x f g).take A.2.1.toNat) = _
  rw [List.take_of_length_le (by rw [branchMarks]; exact Nat.le_of_eq this.2)]
end
theorem meets_eq {m : List Bool} {l : List Int} (hl : l.length < 4611686018427387904) (hok : ∀ q ∈ l, 0 ≤ q ∧ q < (m.length : Nat)) : ref07_meets m l = some (l.any fun q => m.getD q.toNat false) := by
  unfold ref07_meets
  rw [loop_all (body := ref07_meets_l2 m l) l (fun q => !m.getD q.toNat false) () true hl (fun i h => by
    simp only [ref07_meets_l2, ltIf h, gdIx h, getDi h, gd_pos (hok _ (List.getElem_mem h))]
    rcases Bool.eq_false_or_eq_true (m.getD l[i].toNat false) with e0 | e0 <;> simp only [e0, Bool.not_true, Bool.not_false, if_true, Bool.false_eq_true, if_false]) (by simp only [ref07_meets_l2, ltEnd])]
  have : l.all (fun q => !m.getD q.toNat false) = !(l.any fun q => m.getD q.toNat false) := by rw [List.not_any_eq_all_not]
  rw [this]
  cases l.any (fun q => m.getD q.toNat false) <;> rfl

/-! ### Trees, from the last node to the first -/
/-- What is left of the results of subtrees. -/
def stk {β : Type} (lf : Int → β) (bf : Int → β → β → β) : List (Int × Int) → List β
  | [] => []
  | p :: l => if p.1 = 0 then lf p.2 :: stk lf bf l else match stk lf bf l with
    | a :: b :: r => bf p.2 a b :: r
    | _ => []
theorem stk_len {β : Type} (lf : Int → β) (bf : Int → β → β → β) : ∀ (l : List (Int × Int)) (op : Int), 0 ≤ op → (l.map (·.1)).foldl shapeStep (some op) = some 0 → ((stk lf bf l).length : Int) = op
  | [], op, _, h => by simp at h; simp [stk, h]
  | p :: l, op, h0, h => by
    simp only [List.map_cons, List.foldl_cons, shapeStep] at h
    split at h
    · rw [shape_none] at h; cases h
    · rename_i hc
      have hc1 : op ≠ 0 := fun e => hc (.inl e)
      have hc2 : p.1 = 0 ∨ p.1 = 2 := by
        by_cases e : p.1 = 0
        · exact .inl e
        · by_cases e2 : p.1 = 2
          · exact .inr e2
          · exact absurd (.inr ⟨e, e2⟩) hc
      have ih := stk_len lf bf l (op + (p.1 - 1)) (by omega) h
      simp only [stk]
      rcases hc2 with e | e
      · rw [if_pos e, List.length_cons]; omega
      · rw [if_neg (by omega)]
        match hst : stk lf bf l with
        | [] => rw [hst] at ih; simp at ih; omega
        | [_] => rw [hst] at ih; simp at ih; omega
        | a :: b :: r => rw [hst] at ih; simp at ih ⊢; omega
inductive Two {α β : Type} (R : α → β → Prop) : List α → List β → Prop
  | nil : Two R [] []
  | cons {a b l m} : R a b → Two R l m → Two R (a :: l) (b :: m)
theorem stk_two {α β : Type} {R : α → β → Prop} {lf : Int → α} {bf : Int → α → α → α} {lf' : Int → β} {bf' : Int → β → β → β} (hl : ∀ x, R (lf x) (lf' x)) (hb : ∀ x a b a' b', R a a' → R b b' → R (bf x a b) (bf' x a' b')) : ∀ l, Two R (stk lf bf l) (stk lf' bf' l)
  | [] => .nil
  | p :: l => by
    have ih := stk_two hl hb l
    simp only [stk]
    split
    · exact .cons (hl _) ih
    · revert ih
      generalize stk lf bf l = s
      generalize stk lf' bf' l = t
      intro ih
      match ih with
      | .nil => exact .nil
      | .cons _ .nil => exact .nil
      | .cons h1 (.cons h2 h3) => exact .cons (hb _ _ _ _ _ h1 h2) h3
theorem stk_all {β : Type} {P : β → Prop} {lf : Int → β} {bf : Int → β → β → β} (hl : ∀ x, P (lf x)) (hb : ∀ x a b, P a → P b → P (bf x a b)) (l : List (Int × Int)) : ∀ a ∈ stk lf bf l, P a := by
  induction l with
  | nil => simp [stk]
  | cons p l ih =>
    simp only [stk]
    split
    · intro a ha
      rcases List.mem_cons.1 ha with rfl | ha
      · exact hl _
      · exact ih a ha
    · split
      · rename_i a b r hst
        rw [hst] at ih
        intro c hc
        rcases List.mem_cons.1 hc with rfl | hc
        · exact hb _ _ _ (ih a (by simp)) (ih b (by simp))
        · exact ih c (by simp [hc])
      · simp
theorem rev2 {β : Type} {a b : β} {r : List β} : (a :: b :: r).reverse = r.reverse ++ [b, a] := by simp

/-- The loop from the last node to the first, over any kind of results. -/
theorem stk_loop {β : Type} {body : (List β × Int) → Option ((List β × Int) ⊕ List β)} (lf : Int → β) (bf : Int → β → β → β) (sh lb : List Int) (hlen : lb.length = sh.length) (hl : sh.length ≤ 4095) (hok : shapeRun sh = some 0)
    (hleaf : ∀ (st : List β) (i : Nat) (h : i < sh.length) (h' : i < lb.length), st.length ≤ 4096 → sh[i] = 0 → body (st.reverse, (i : Int)) = some (.inl ((lf lb[i] :: st).reverse, IntKind.i64.wrap ((i : Int) - 1))))
    (hbr : ∀ (a b : β) (r : List β) (i : Nat) (h : i < sh.length) (h' : i < lb.length), r.length ≤ 4096 → sh[i] ≠ 0 → (∀ c ∈ a :: b :: r, c ∈ stk lf bf ((sh.zip lb).drop (i + 1))) → body ((a :: b :: r).reverse, (i : Int)) = some (.inl ((bf lb[i] a b :: r).reverse, IntKind.i64.wrap ((i : Int) - 1))))
    (hend : ∀ st, body (st, (-1 : Int)) = some (.inr st)) : loopP body ([], IntKind.i64.wrap (((sh.length : Nat) : Int) - 1)) = some (stk lf bf (sh.zip lb)).reverse ∧ ∃ s, stk lf bf (sh.zip lb) = [s] := by
  have hz : (sh.zip lb).length = sh.length := by simp [hlen]
  -- how many are left
  have hmap : ∀ i, ((sh.zip lb).drop i).map (·.1) = sh.drop i := by
    intro i
    rw [List.map_drop, List.map_fst_zip (by omega)]
  have hcount : ∀ i, i ≤ sh.length → ∃ op : Int, shapeRun (sh.take i) = some op ∧ ((stk lf bf ((sh.zip lb).drop i)).length : Int) = op := by
    intro i hi
    cases ho : shapeRun (sh.take i) with
    | none => rw [shapeRun_split i, ho, shape_none] at hok; cases hok
    | some op =>
      refine ⟨op, rfl, stk_len lf bf _ op (shapeRun_bound _ _ ho).1 ?_⟩
      rw [hmap, ← ho, ← shapeRun_split]; exact hok
  have hlen2 : ∀ i, i ≤ sh.length → (stk lf bf ((sh.zip lb).drop i)).length ≤ i + 1 := by
    intro i hi
    obtain ⟨op, h1, h2⟩ := hcount i hi
    have := (shapeRun_bound _ _ h1).2
    rw [List.length_take] at this
    omega
  constructor
  · have := loop_steps (body := body) sh.length (fun k => ((stk lf bf ((sh.zip lb).drop (sh.length - k))).reverse, ((sh.length - k : Nat) : Int) - 1)) (e := (stk lf bf (sh.zip lb)).reverse) (fun k hk => ?_) ?_
    · simp only [Nat.sub_zero] at this
      rw [List.drop_eq_nil_of_le (by omega)] at this
      rw [wrapP1 (by omega)]
      exact this
    · -- a node
      try simp only
      obtain ⟨i, hi⟩ : ∃ i, sh.length - k = i + 1 := ⟨sh.length - k - 1, by omega⟩
      have hi2 : sh.length - (k + 1) = i := by omega
      have hil : i < sh.length := by omega
      have hil2 : i < lb.length := by omega
      rw [hi, hi2]
      have hix : (((i + 1 : Nat) : Int) - 1) = (i : Int) := by omega
      rw [hix]
      have hd : (sh.zip lb).drop i = (sh[i], lb[i]) :: (sh.zip lb).drop (i + 1) := by
        rw [List.drop_eq_getElem_cons (by omega)]
        simp
      have hw : IntKind.i64.wrap ((i : Int) - 1) = (i : Int) - 1 := wrapP1 (by omega)
      by_cases hc : sh[i] = 0
      · rw [hleaf _ i hil hil2 (by have := hlen2 (i + 1) (by omega); omega) hc, hd, hw]
        simp only [stk, hc, if_true]
      · obtain ⟨op, h1, h2⟩ := hcount i (by omega)
        have hne : sh[i] = 2 ∧ op ≠ 0 := by
          have h3 : shapeRun (sh.take (i + 1)) = shapeStep (some op) sh[i] := by rw [shapeRun_take hil, h1]
          obtain ⟨op', h4, _⟩ := hcount (i + 1) (by omega)
          rw [h4] at h3
          simp only [shapeStep] at h3
          split at h3
          · cases h3
          · rename_i h5
            refine ⟨?_, fun e => h5 (.inl e)⟩
            by_cases e : sh[i] = 2
            · exact e
            · exact absurd (.inr ⟨hc, e⟩) h5
        rw [hd] at h2
        simp only [stk, if_neg hc] at h2
        rw [hd]
        simp only [stk, if_neg hc]
        have hb := shapeRun_bound _ _ h1
        match hst : stk lf bf ((sh.zip lb).drop (i + 1)) with
        | [] => rw [hst] at h2; simp at h2; omega
        | [_] => rw [hst] at h2; simp at h2; omega
        | a :: b :: r =>
          have hr := hlen2 (i + 1) (by omega)
          rw [hst] at hr
          simp only [List.length_cons] at hr
          rw [hbr a b r i hil hil2 (by omega) hc (fun c hc => by rw [hst]; exact hc), hw]
    · simp only [Nat.sub_self, List.drop_zero]
      exact hend _
  · obtain ⟨op, h1, h2⟩ := hcount 0 (Nat.zero_le _)
    simp [shapeRun] at h1
    rw [List.drop_zero] at h2
    match hst : stk lf bf (sh.zip lb) with
    | [] => rw [hst] at h2; simp at h2; omega
    | [s] => exact ⟨s, rfl⟩
    | _ :: _ :: r => rw [hst] at h2; simp at h2; omega
end Go.Lite.Fam
end

section
/-
  PURE C: the law TreeAccepts.
-/
set_option linter.unusedVariables false
set_option linter.unusedSimpArgs false
namespace Go.Lite.Fam
open Go Go.Lite

theorem okTree_out {x : Int} {sh lb : List Int} (h : okTree x sh lb = true) : (1 ≤ sh.length ∧ sh.length ≤ 4095 ∧ lb.length = sh.length) ∧ shapeRun sh = some 0 := by
  simp only [okTree, Bool.and_eq_true, decide_eq_true_eq] at h
  refine ⟨h.1.1, ?_⟩
  have h2 := h.1.2
  unfold shapeOk at h2
  split at h2
  · rename_i op ho
    simp only [beq_iff_eq] at h2
    rw [ho, h2]
  · cases h2
def stkBits (A : Aut) (sh lb : List Int) : List Int := stk (leafBits A) (branchBits A) (sh.zip lb)
def stkMarks (A : Aut) (sh lb : List Int) : List (List Bool) := stk (leafMarks A) (branchMarks A) (sh.zip lb)
theorem stk_rel {A : Aut} (h : Ok A) (l : List (Int × Int)) : Two (Same A.2.1.toNat) (stk (leafBits A) (branchBits A) l) (stk (leafMarks A) (branchMarks A) l) :=
  stk_two (fun x => leaf_same h x) (fun x a b a' b' h1 h2 => branch_same h x h1 h2) l
theorem two_mem {α β : Type} {R : α → β → Prop} {l : List α} {m : List β} (h : Two R l m) : (∀ a ∈ l, ∃ b, R a b) ∧ ∀ b ∈ m, ∃ a, R a b := by
  induction h with
  | nil => simp
  | cons h1 _ ih =>
    constructor
    · intro a ha
      rcases List.mem_cons.1 ha with rfl | ha
      · exact ⟨_, h1⟩
      · exact ih.1 a ha
    · intro b hb
      rcases List.mem_cons.1 hb with rfl | hb
      · exact ⟨_, h1⟩
      · exact ih.2 b hb

theorem tops {β : Type} {a b : β} {r : List β} (hr : r.length ≤ 4096) (z : β) :
    ((a :: b :: r).reverse.length = r.length + 2) ∧ (0 ≤ IntKind.i64.wrap ((((a :: b :: r).reverse.length : Nat) : Int) - 1) ∧ IntKind.i64.wrap ((((a :: b :: r).reverse.length : Nat) : Int) - 1) < (((a :: b :: r).reverse.length : Nat) : Int)) ∧ (0 ≤ IntKind.i64.wrap ((((a :: b :: r).reverse.length : Nat) : Int) - 2) ∧ IntKind.i64.wrap ((((a :: b :: r).reverse.length : Nat) : Int) - 2) < (((a :: b :: r).reverse.length : Nat) : Int)) ∧ (0 ≤ IntKind.i64.wrap ((((a :: b :: r).reverse.length : Nat) : Int) - 2) ∧ IntKind.i64.wrap ((((a :: b :: r).reverse.length : Nat) : Int) - 2) ≤ (((a :: b :: r).reverse.length : Nat) : Int)) ∧
      (a :: b :: r).reverse.getD (IntKind.i64.wrap ((((a :: b :: r).reverse.length : Nat) : Int) - 1)).toNat z = a ∧ (a :: b :: r).reverse.getD (IntKind.i64.wrap ((((a :: b :: r).reverse.length : Nat) : Int) - 2)).toNat z = b ∧ (a :: b :: r).reverse.take (IntKind.i64.wrap ((((a :: b :: r).reverse.length : Nat) : Int) - 2)).toNat = r.reverse := by
  have hl : (a :: b :: r).reverse.length = r.length + 2 := by simp
  have w1 : IntKind.i64.wrap ((((a :: b :: r).reverse.length : Nat) : Int) - 1) = ((r.length + 1 : Nat) : Int) := by rw [hl, wrap64 (by omega) (by omega)]; omega
  have w2 : IntKind.i64.wrap ((((a :: b :: r).reverse.length : Nat) : Int) - 2) = ((r.length : Nat) : Int) := by rw [hl, wrap64 (by omega) (by omega)]; omega
  rw [w1, w2, Int.toNat_natCast, Int.toNat_natCast]
  refine ⟨hl, ⟨by omega, by rw [hl]; omega⟩, ⟨by omega, by rw [hl]; omega⟩, ⟨by omega, by rw [hl]; omega⟩, ?_, ?_, ?_⟩
  · rw [rev2, List.getD_eq_getElem?_getD, List.getElem?_append_right (by simp)]; simp
  · rw [rev2, List.getD_eq_getElem?_getD, List.getElem?_append_right (by simp)]; simp
  · rw [rev2, List.take_left' (by simp)]

section
variable {A : Aut} {sh lb : List Int} (hs : small A) (h : Ok A) (ht : okTree A.1 sh lb = true)
include hs h ht

theorem accepts_code : ∃ s, stkBits A sh lb = [s] ∧ tree_Accepts A sh lb = some (A.2.2.1.any (fun q => bitAt s q.toNat), 0) := by
  obtain ⟨⟨l1, l2, l3⟩, hrun⟩ := okTree_out ht
  have bnd : ∀ l, ∀ a ∈ stk (leafBits A) (branchBits A) l, 0 ≤ a ∧ a < 18446744073709551616 := fun l a ha => by
    obtain ⟨b, hb⟩ := (two_mem (stk_rel h l)).1 a ha
    exact hb.1
  have loop := stk_loop (body := tree_Accepts_l8 A sh lb) (leafBits A) (branchBits A) sh lb l3 l2 hrun (fun st i hi hi' hst hc => by
      have hst2 : st.reverse.length ≤ 4096 := by simpa using hst
      have e1 : (decide ((i : Int) ≥ 0)) = true := by simp
      simp only [tree_Accepts_l8, e1, if_true, gdIx hi, gdIx hi', getDi hi, getDi hi', getDn hi, getDn hi', hc, beq_self_eq_true, leafSet_eq hs h, Option.bind_some, tree_Accepts_j16, Int.toNat_natCast, List.take_length]
      rw [gd_pos (by simp only [List.length_cons, List.length_nil]; omega), List.reverse_cons])
    (fun a b r i hi hi' hr hc hm => by
      obtain ⟨t1, t2, t3, t4, t5, t6, t7⟩ := tops (a := a) (b := b) hr (0 : Int)
      have e1 : (decide ((i : Int) ≥ 0)) = true := by simp
      have e2 : (sh[i] == 0) = false := by simpa using hc
      simp only [tree_Accepts_l8, e1, if_true, gdIx hi, gdIx hi', getDi hi, getDi hi', e2, Bool.false_eq_true, if_false, gd_pos t2, gd_pos t3, gd_pos t4, t5, t6, t7, branchSet_eq hs h _ (bnd _ a (hm a (by simp))) (bnd _ b (hm b (by simp))), Option.bind_some, tree_Accepts_j16]
      rw [gd_pos (by simp only [List.length_reverse, List.length_cons, List.length_nil]; omega), List.reverse_cons])
    (fun st => by simp [tree_Accepts_l8])
  obtain ⟨hl, s, hst⟩ := loop
  refine ⟨s, hst, ?_⟩
  have hsb := bnd _ s (by rw [hst]; simp)
  unfold tree_Accepts
  have herr : errA A = 0 := by
    have : okAut A = true := by
      simp only [okAut, okTop, Bool.and_eq_true, decide_eq_true_eq, List.all_eq_true, okA, okL, okB, okX]
      exact ⟨⟨⟨h.top, h.acc⟩, fun l hl => ⟨(h.leaf l hl).1, (h.leaf l hl).2⟩⟩, fun b hb => ⟨⟨⟨(h.branch b hb).1, (h.branch b hb).2.1⟩, (h.branch b hb).2.2.1⟩, (h.branch b hb).2.2.2⟩⟩
    simp [errA, this]
  rw [tree_Validate_eq hs, herr, validTree_eq (by omega) (by omega), ht]
  simp only [Option.bind_some, bne_self_eq_false, Bool.false_eq_true, if_false, Bool.not_true]
  rw [hl, hst]
  simp only [Option.bind_some, List.reverse_cons, List.reverse_nil, List.nil_append]
  rw [loop_all (body := tree_Accepts_l18 A [s]) A.2.2.1 (fun q => !bitAt s q.toNat) () (true, (0 : Int)) hs.1 (fun i hi => by
    obtain ⟨q1, q2⟩ := h.acc _ (List.getElem_mem hi)
    obtain ⟨_, _, t3, t4⟩ := h.top
    simp only [tree_Accepts_l18, ltIf hi, gdIx hi, getDi hi]
    rw [gd_pos ⟨by omega, by simp⟩, gd_pos q1, show [s].getD (0 : Int).toNat 0 = s from rfl, andOne hsb.1 hsb.2 (by omega)]
    rcases Bool.eq_false_or_eq_true (bitAt s A.2.2.1[i].toNat) with e0 | e0 <;> simp [e0]) (by simp only [tree_Accepts_l18, ltEnd])]
  have : A.2.2.1.all (fun q => !bitAt s q.toNat) = !(A.2.2.1.any fun q => bitAt s q.toNat) := by rw [List.not_any_eq_all_not]
  rw [this]
  cases A.2.2.1.any (fun q => bitAt s q.toNat) <;> rfl

theorem accepts_doc : ∃ m, stkMarks A sh lb = [m] ∧ ref07_Accepts A sh lb = some (A.2.2.1.any (fun q => m.getD q.toNat false), 0) := by
  obtain ⟨⟨l1, l2, l3⟩, hrun⟩ := okTree_out ht
  have bnd : ∀ l, ∀ a ∈ stk (leafMarks A) (branchMarks A) l, a.length = A.2.1.toNat := fun l a ha => by
    obtain ⟨b, hb⟩ := (two_mem (stk_rel h l)).2 a ha
    exact hb.2.1
  have loop := stk_loop (body := ref07_accepts_l3 A sh lb) (leafMarks A) (branchMarks A) sh lb l3 l2 hrun (fun st i hi hi' hst hc => by
      have hst2 : st.reverse.length ≤ 4096 := by simpa using hst
      have e1 : (decide ((i : Int) ≥ 0)) = true := by simp
      simp only [ref07_accepts_l3, e1, if_true, gdIx hi, gdIx hi', getDi hi, getDi hi', getDn hi, getDn hi', hc, beq_self_eq_true, leaf_eq hs h, Option.bind_some, ref07_accepts_j4]
      rw [gd_pos (by simp only [List.length_cons, List.length_nil]; omega), List.reverse_cons])
    (fun a b r i hi hi' hr hc hm => by
      obtain ⟨t1, t2, t3, t4, t5, t6, t7⟩ := tops (a := a) (b := b) hr ([] : List Bool)
      have e1 : (decide ((i : Int) ≥ 0)) = true := by simp
      have e2 : (sh[i] == 0) = false := by simpa using hc
      simp only [ref07_accepts_l3, e1, if_true, gdIx hi, gdIx hi', getDi hi, getDi hi', e2, Bool.false_eq_true, if_false, gd_pos t2, gd_pos t3, gd_pos t4, t5, t6, t7, branch_eq hs h _ (bnd _ a (hm a (by simp))) (bnd _ b (hm b (by simp))), Option.bind_some, ref07_accepts_j4]
      rw [gd_pos (by simp only [List.length_reverse, List.length_cons, List.length_nil]; omega), List.reverse_cons])
    (fun st => by simp [ref07_accepts_l3])
  obtain ⟨hl, m, hst⟩ := loop
  refine ⟨m, hst, ?_⟩
  have hmb := bnd _ m (by rw [hst]; simp)
  obtain ⟨_, _, t3, t4⟩ := h.top
  unfold ref07_Accepts
  have herr : errA A = 0 := by
    have : okAut A = true := by
      simp only [okAut, okTop, Bool.and_eq_true, decide_eq_true_eq, List.all_eq_true, okA, okL, okB, okX]
      exact ⟨⟨⟨h.top, h.acc⟩, fun l hl => ⟨(h.leaf l hl).1, (h.leaf l hl).2⟩⟩, fun b hb => ⟨⟨⟨(h.branch b hb).1, (h.branch b hb).2.1⟩, (h.branch b hb).2.2.1⟩, (h.branch b hb).2.2.2⟩⟩
    simp [errA, this]
  rw [ref07_Validate_eq hs, herr, refTree_eq (by omega) (by omega), ht]
  simp only [Option.bind_some, bne_self_eq_false, Bool.false_eq_true, if_false, Bool.not_true, ref07_Accepts_q1]
  unfold ref07_accepts
  rw [hl, hst]
  simp only [Option.bind_some, List.reverse_cons, List.reverse_nil, List.nil_append]
  rw [gd_pos ⟨by omega, by simp⟩, show [m].getD (0 : Int).toNat [] = m from rfl, meets_eq hs.1 (fun q hq => by have := h.acc q hq; omega)]
  rfl

theorem accepts_same : ∃ b, tree_Accepts A sh lb = some (b, 0) ∧ ref07_Accepts A sh lb = some (b, 0) := by
  obtain ⟨s, h1, h2⟩ := accepts_code hs h ht
  obtain ⟨m, h3, h4⟩ := accepts_doc hs h ht
  have hr := stk_rel h (sh.zip lb)
  unfold stkBits at h1
  unfold stkMarks at h3
  rw [h1, h3] at hr
  cases hr with
  | cons hr _ =>
    refine ⟨_, h2, ?_⟩
    rw [h4]
    congr 2
    rw [Bool.eq_iff_iff, List.any_eq_true, List.any_eq_true]
    have key : ∀ q ∈ A.2.2.1, bitAt s q.toNat = m.getD q.toNat false := fun q hq => hr.2.2 _ (by have := h.acc q hq; omega)
    constructor
    · rintro ⟨q, hq, hb⟩; exact ⟨q, hq, by rw [key q hq]; exact hb⟩
    · rintro ⟨q, hq, hb⟩; exact ⟨q, hq, by rw [← key q hq]; exact hb⟩
end

theorem accepts_all {A : Aut} {sh lb : List Int} (hs : small A) (h1 : sh.length < 4611686018427387904) (h2 : lb.length < 4611686018427387904) : ∃ r, tree_Accepts A sh lb = some r ∧ ref07_Accepts A sh lb = some r := by
  cases ha : okAut A with
  | false =>
    have he : errA A = 1 := by simp [errA, ha]
    refine ⟨(false, 1), ?_, ?_⟩
    · unfold tree_Accepts
      rw [tree_Validate_eq hs, he]; rfl
    · unfold ref07_Accepts
      rw [ref07_Validate_eq hs, he]; rfl
  | true =>
    have he : errA A = 0 := by simp [errA, ha]
    cases ht : okTree A.1 sh lb with
    | false =>
      refine ⟨(false, 1), ?_, ?_⟩
      · unfold tree_Accepts
        rw [tree_Validate_eq hs, he, validTree_eq h1 h2, ht]; rfl
      · unfold ref07_Accepts
        rw [ref07_Validate_eq hs, he, refTree_eq h1 h2, ht]; rfl
    | true =>
      obtain ⟨b, e1, e2⟩ := accepts_same hs (ok_of ha) ht
      exact ⟨_, e1, e2⟩

theorem Big_eq {A : Aut} : law07_Big A = some (decide (300 < A.2.2.1.length) || decide (300 < A.2.2.2.1.length) || decide (800 < A.2.2.2.2.1.length)) := by
  unfold law07_Big law07_Big_q1
  by_cases h1 : 300 < A.2.2.1.length
  · rw [if_pos (by simp; omega)]; simp [h1]
  · rw [if_neg (by simp; omega)]
    by_cases h2 : 300 < A.2.2.2.1.length
    · rw [if_pos (by simp; omega)]; simp [h2]
    · rw [if_neg (by simp; omega)]
      congr 1
      rw [Bool.eq_iff_iff]; simp; omega
theorem long_eq {T : T_familychecklaw07_Tree} : law07_long T = some (decide (60 < T.1.length) || decide (60 < T.2.1.length)) := by
  unfold law07_long law07_long_q1
  by_cases h1 : 60 < T.1.length
  · rw [if_pos (by simp; omega)]; simp [h1]
  · rw [if_neg (by simp; omega)]
    congr 1
    rw [Bool.eq_iff_iff]; simp; omega

theorem TreeAccepts_law (A : Aut) (T : T_familychecklaw07_Tree) : law07_TreeAccepts A T = some true := by
  unfold law07_TreeAccepts
  rw [Big_eq, long_eq]
  simp only [Option.bind_some]
  split
  · rfl
  · rename_i hb
    cases hl : (decide (60 < T.1.length) || decide (60 < T.2.1.length)) with
    | true => rfl
    | false =>
      simp only [Bool.or_eq_true, decide_eq_true_eq, not_or, Bool.or_eq_false_iff, decide_eq_false_iff_not] at hb hl
      obtain ⟨r, e1, e2⟩ := accepts_all (A := A) (sh := T.1) (lb := T.2.1) ⟨by omega, by omega, by omega⟩ (by omega) (by omega)
      unfold law07_TreeAccepts_q1
      simp only [Bool.false_eq_true, if_false, e1, e2, Option.bind_some, beq_self_eq_true, if_true]
      rfl
end Go.Lite.Fam
end
