/-
  A part of the proof: L45, L46, L47, L48, L49, L50, L51, L52, L53, L54, L55, L56, L57, L58, L59, L59b, L59c, L60, L61, L62, L70, L71, L72, L73, L74.
-/
import Derived.LoopN
import Derived.Scope
import Derived.OpenShut
import Derived.Test.YtlbignphgpadaaaX2
section
/-
  LITE 45: what is come to, and names there and back.
-/
set_option linter.unusedVariables false
set_option linter.unusedSimpArgs false
namespace Go.Lite
open Go Go.RowKit

theorem reach_spec {H : Heap} : ∀ (m : Nat) (todo seen l : List Nat), reach H m todo seen = some l → seen.Nodup → l.Nodup ∧ (∀ r ∈ seen, r ∈ l) ∧ ∀ r ∈ l, r ∈ seen ∨ ∃ root, H r = some root
  | 0, _, _, _, h, _ => by cases h
  | m + 1, [], seen, l, h, hn => by
    simp only [reach, Option.some.injEq] at h
    subst h
    exact ⟨hn, fun _ h => h, fun _ h => .inl h⟩
  | m + 1, r :: todo, seen, l, h, hn => by
    simp only [reach] at h
    split at h
    · exact reach_spec m todo seen l h hn
    · rename_i hc
      split at h
      · rename_i root hr
        have hnot : r ∉ seen := by simpa using hc
        obtain ⟨h1, h2, h3⟩ := reach_spec m _ _ l h (by
          rw [List.nodup_append]
          exact ⟨hn, by simp, fun a ha b hb hab => hnot (by simp at hb; subst hb; exact hab ▸ ha)⟩)
        refine ⟨h1, fun q hq => h2 q (by simp [hq]), fun q hq => ?_⟩
        rcases h3 q hq with h | h
        · rcases List.mem_append.1 h with h | h
          · exact .inl h
          · simp at h; subst h; exact .inr ⟨root, hr⟩
        · exact .inr h
      · exact reach_spec m todo seen l h hn

theorem pos?_some : ∀ {l : List Nat} {r j : Nat}, pos? l r = some j → l[j]? = some r
  | [], _, _, h => by cases h
  | a :: l, r, j, h => by
    simp only [pos?] at h
    split at h
    · rename_i he
      injection h with h
      subst h
      have : a = r := by simpa using he
      simp [this]
    · split at h
      · rename_i i hi
        injection h with h
        subst h
        simpa using pos?_some hi
      · cases h
theorem pos?_of : ∀ {l : List Nat} {r j : Nat}, l.Nodup → l[j]? = some r → pos? l r = some j
  | [], _, _, _, h => by simp at h
  | a :: l, r, 0, hn, h => by
    simp at h
    subst h
    simp [pos?]
  | a :: l, r, j + 1, hn, h => by
    have h' : l[j]? = some r := by simpa using h
    have hne : (a == r) = false := by
      rw [List.nodup_cons] at hn
      refine beq_false_of_ne fun e => hn.1 ?_
      rw [e]
      exact List.mem_of_getElem? h'
    simp only [pos?, hne, pos?_of (List.nodup_cons.1 hn).2 h']

theorem mapAll_get {α β : Type} {f : α → Option β} : ∀ {l : List α} {bs : List β}, mapAll f l = some bs → bs.length = l.length ∧ ∀ (i : Nat) (a : α), l[i]? = some a → ∃ b, bs[i]? = some b ∧ f a = some b
  | [], bs, e => by injection e with e; subst e; exact ⟨rfl, fun i a h => by simp at h⟩
  | a :: l, bs, e => by
    simp only [mapAll] at e
    split at e
    · rename_i b hb
      split at e
      · rename_i bs' hbs
        injection e with e
        subst e
        obtain ⟨h1, h2⟩ := mapAll_get hbs
        refine ⟨by simp [h1], fun i x h => ?_⟩
        cases i with
        | zero => simp at h; subst h; exact ⟨b, rfl, hb⟩
        | succ i => exact (h2 i x (by simpa using h)).imp fun y hy => ⟨by simpa using hy.1, hy.2⟩
      · cases e
    · cases e

theorem heapFrom_get : ∀ (l : List (Option Root)) (n j : Nat), heapFrom n l j = if n ≤ j then (l[j - n]?).join else none
  | [], n, j => by simp [heapFrom]
  | r :: l, n, j => by
    simp only [heapFrom]
    by_cases hj : j = n
    · subst hj
      rw [upd_same]
      simp
    · rw [upd_other _ _ hj, heapFrom_get l (n + 1) j]
      by_cases hle : n ≤ j
      · have : j - n = (j - (n + 1)) + 1 := by omega
        rw [if_pos hle, if_pos (by omega), this, List.getElem?_cons_succ]
      · rw [if_neg hle, if_neg (by omega)]
theorem heapFrom_zero (l : List (Option Root)) (j : Nat) : heapFrom 0 l j = (l[j]?).join := by
  rw [heapFrom_get]; simp

theorem giveBack_other {names : Nat → Option Nat} : ∀ (l : List (Option Root)) (j : Nat) (H : Heap) (r : Nat), (∀ i, i < l.length → names (j + i) ≠ some r) → giveBack names j l H r = H r
  | [], _, _, _, _ => rfl
  | x :: l, j, H, r, h => by
    have h' : ∀ i, i < l.length → names (j + 1 + i) ≠ some r := fun i hi => by
      have := h (i + 1) (by simp; omega)
      rwa [show j + 1 + i = j + (i + 1) by omega]
    simp only [giveBack]
    cases hn : names j with
    | none => exact giveBack_other l (j + 1) H r h'
    | some id =>
      have hne : r ≠ id := fun e => h 0 (by simp) (by rw [Nat.add_zero, hn, e])
      show giveBack names (j + 1) l _ r = H r
      rw [giveBack_other l (j + 1) _ r h', upd_other _ _ hne]
theorem giveBack_get {names : Nat → Option Nat} : ∀ (l : List (Option Root)) (j : Nat) (H : Heap), (∀ i i' id, i < l.length → i' < l.length → names (j + i) = some id → names (j + i') = some id → i = i') →
    ∀ (i : Nat) (x : Option Root) (id : Nat), l[i]? = some x → names (j + i) = some id → giveBack names j l H id = x.map (Root.ren names)
  | [], _, _, _, i, x, id, h, _ => by simp at h
  | y :: l, j, H, hinj, i, x, id, h, hid => by
    have hinj' : ∀ i i' id, i < l.length → i' < l.length → names (j + 1 + i) = some id → names (j + 1 + i') = some id → i = i' := fun a b c ha hb h1 h2 => by
      have := hinj (a + 1) (b + 1) c (by simp; omega) (by simp; omega) (by rwa [show j + (a + 1) = j + 1 + a by omega]) (by rwa [show j + (b + 1) = j + 1 + b by omega])
      omega
    simp only [giveBack]
    cases i with
    | zero =>
      simp at h
      subst h
      rw [Nat.add_zero] at hid
      rw [hid]
      show giveBack names (j + 1) l _ id = _
      rw [giveBack_other, upd_same]
      intro i hi he
      have := hinj 0 (i + 1) id (by simp) (by simp; omega) (by rwa [Nat.add_zero]) (by rwa [show j + (i + 1) = j + 1 + i by omega])
      omega
    | succ i =>
      have h' : l[i]? = some x := by simpa using h
      have hid' : names (j + 1 + i) = some id := by rwa [show j + 1 + i = j + (i + 1) by omega]
      cases hn : names j with
      | none => exact giveBack_get l (j + 1) H hinj' i x id h' hid'
      | some id0 => exact giveBack_get l (j + 1) _ hinj' i x id h' hid'

theorem freeze_other : ∀ (l : List Nat) (H : Heap) (r : Nat), r ∉ l → freeze H l r = H r
  | [], _, _, _ => rfl
  | a :: l, H, r, h => by
    have h1 : r ≠ a := fun e => h (by simp [e])
    have h2 : r ∉ l := fun e => h (by simp [e])
    have e : freeze H (a :: l) = match H a with | some (.arr _ k xs _ none) => freeze (upd a (some (.frz k xs)) H) l | _ => freeze H l := rfl
    rw [e]
    split
    · rw [freeze_other l _ r h2, upd_other _ _ h1]
    · exact freeze_other l H r h2

/-- The names of what comes back. -/
theorem backName_spec {ids : List Nat} {nid bound : Nat} (hn : ids.Nodup) (hf : ∀ i, ids.length + i < bound → nid + i ∉ ids) :
    (∀ j id, backName ids nid bound j = some id → (ids[j]? = some id) ∨ (ids.length ≤ j ∧ j < bound ∧ id = nid + (j - ids.length))) ∧
    (∀ j, j < bound → ∃ id, backName ids nid bound j = some id) ∧
    (∀ j j' id, backName ids nid bound j = some id → backName ids nid bound j' = some id → j = j') := by
  have h1 : ∀ j id, backName ids nid bound j = some id → (ids[j]? = some id) ∨ (ids.length ≤ j ∧ j < bound ∧ id = nid + (j - ids.length)) := by
    intro j id h
    unfold backName at h
    rw [get?_eq] at h
    split at h
    · rename_i r hr
      injection h with h
      subst h
      exact .inl hr
    · rename_i hr
      split at h
      · rename_i hb
        injection h with h
        exact .inr ⟨by simpa using hr, of_decide_eq_true hb, h.symm⟩
      · cases h
  refine ⟨h1, fun j hj => ?_, fun j j' id h h' => ?_⟩
  · unfold backName
    rw [get?_eq]
    split
    · exact ⟨_, rfl⟩
    · rw [decide_eq_true hj]; exact ⟨_, rfl⟩
  · rcases h1 j id h with a | ⟨a1, a2, a3⟩
    · rcases h1 j' id h' with b | ⟨b1, b2, b3⟩
      · have hj := (List.getElem?_eq_some_iff.1 a)
        have hj' := (List.getElem?_eq_some_iff.1 b)
        obtain ⟨l1, e1⟩ := hj
        obtain ⟨l2, e2⟩ := hj'
        exact (List.getElem_inj hn).1 (e1.trans e2.symm)
      · exact absurd (List.mem_of_getElem? a) (by rw [b3]; exact hf _ (by omega))
    · rcases h1 j' id h' with b | ⟨b1, b2, b3⟩
      · exact absurd (List.mem_of_getElem? b) (by rw [a3]; exact hf _ (by omega))
      · omega
end Go.Lite
end

section
/-
  LITE 46: a call: what goes in, what comes back.
-/
set_option linter.unusedVariables false
set_option linter.unusedSimpArgs false
namespace Go.Lite
open Go Go.RowKit

def GlobOk (glob : Nat → Option Comp) (E : Env) : Prop := ∀ g c, glob g = some c → RelV E (.at c.k c.d) (.pointer (some ⟨g, 0, none⟩))

/-- What the run of a function has done. -/
structure Back (E : Env) (m : Nat) (v : AV) (roots2 : List (Option Root)) (x : Value) (E' : Env) : Prop where
  good : Good E' (· < roots2.length)
  ext : Ext (· < m) E E'
  H : E'.H = heapFrom 0 roots2
  rel : RelV E' v x
  names : ∀ q ∈ v.ids, q < roots2.length
  tr : Tr (Own E.G) E.w E'.w
  own : ∀ b, Own E'.G b → b < E.w.heap.size → Own E.G b
  F : E'.F = E.F

def CallSpec (P : Program) (glob : Nat → Option Comp) (callF : CallF) : Prop :=
  ∀ f args roots v roots2, callF f args roots = some (v, roots2) → ∀ (E : Env) (xs : List Value), Good E (· < roots.length) → E.H = heapFrom 0 (roots.map some) → GlobOk glob E → All2 (RelV E) args xs → (∀ q ∈ idsAll args, q < roots.length) →
    Calls P f xs.toArray E.w (fun e w' => ∃ x E', e = .returned x ∧ E'.w = w' ∧ Back E roots.length v roots2 x E')

theorem dataV {E : Env} {k : K} {d : k.D} {v : Value} (h : RepC E.S E.w k d v.cells.toList ∧ (k.isAgg = true → ∃ cs : Array Value, v = .agg cs) ∧ (k.isAgg = false → v.cells = #[v])) : RelV E (.data k d) v := by
  obtain ⟨h1, h2, h3⟩ := h
  unfold RelV
  split
  · rename_i hk
    obtain ⟨cs, rfl⟩ := h2 hk
    exact ⟨cs, rfl, h1⟩
  · rename_i hk
    rw [h3 hk] at h1
    exact h1

theorem handOver_ok {cx : Cx} {own : List Nat} {E E2 : Env} {n : Nat → Prop} {f : Nat → Option Nat} (hg : Good E n) (hw : E2.w = E.w) (hren : ∀ v x, RelV E v x → (∀ q ∈ v.ids, n q) → RelV E2 (v.ren f) x) (hS : ∀ b, E.S b → E2.S b) : ∀ (ts : List TypeId) (i : Nat) (vs : List AV) (xs : List Value) (args : List AV) (lent : List Nat),
    handOver cx E.H own i ts vs = some (args, lent) → All2 (RelV E) vs xs → (∀ q ∈ idsAll vs, n q) → Lent E.H E E2.S lent → All2 (RelV E2) (renAll f args) xs
  | [], i, [], [], args, lent, h, hv, hn, hl => by
    simp only [handOver, Option.some.injEq, Prod.mk.injEq] at h
    obtain ⟨rfl, rfl⟩ := h
    trivial
  | [], i, [], x :: xs, args, lent, h, hv, hn, hl => hv.elim
  | [], i, v :: vs, [], args, lent, h, hv, hn, hl => hv.elim
  | [], i, v :: vs, x :: xs, args, lent, h, hv, hn, hl => by
    simp only [handOver, Option.some.injEq, Prod.mk.injEq] at h
    obtain ⟨rfl, rfl⟩ := h
    exact ⟨hren v x hv.1 (fun q hq => hn q (by simp [idsAll, hq])), handOver_ok (own := own) (cx := cx) hg hw hren hS [] i vs xs vs [] rfl hv.2 (fun q hq => hn q (by simp [idsAll, hq])) (fun r hr => by cases hr)⟩
  | t :: ts, i, [], xs, args, lent, h, hv, hn, hl => by cases h
  | t :: ts, i, v :: vs, [], args, lent, h, hv, hn, hl => hv.elim
  | t :: ts, i, v :: vs, x :: xs, args, lent, h, hv, hn, hl => by
    have hn1 : ∀ q ∈ v.ids, n q := fun q hq => hn q (by simp [idsAll, hq])
    have hn2 : ∀ q ∈ idsAll vs, n q := fun q hq => hn q (by simp [idsAll, hq])
    simp only [handOver] at h
    split at h
    · cases h
    · rename_i rest lent' hrest
      split at h
      · rename_i k _ _
        split at h
        · rename_i d hd
          simp only [Option.some.injEq, Prod.mk.injEq] at h
          obtain ⟨rfl, rfl⟩ := h
          cases hk : k.flatRows with
          | true =>
            simp only [hk] at hl
            obtain ⟨h1, h2, h3⟩ := asData_ok (S' := fun _ => True) hg (SubH.refl _) (fun _ _ => trivial) (fun _ _ _ _ _ _ _ _ _ _ _ => trivial) hv.1 hd
            exact ⟨dataV ⟨by rw [hw]; exact RepC.flat k hk _ _ h1, h2, h3⟩, handOver_ok hg hw hren hS ts _ vs xs rest lent' hrest hv.2 hn2 hl⟩
          | false =>
            simp only [hk] at hl
            obtain ⟨h1, h2, h3⟩ := asData_ok (S' := E2.S) hg (SubH.refl _) hS (fun r hr => hl r (by simp [hr])) hv.1 hd
            exact ⟨dataV ⟨by rw [hw]; exact h1, h2, h3⟩, handOver_ok hg hw hren hS ts _ vs xs rest lent' hrest hv.2 hn2 (fun r hr => hl r (by simp [hr]))⟩
        · cases h
      · simp only [Option.some.injEq, Prod.mk.injEq] at h
        obtain ⟨rfl, rfl⟩ := h
        exact ⟨hren v x hv.1 hn1, handOver_ok hg hw hren hS ts _ vs xs rest _ hrest hv.2 hn2 hl⟩

def Env.callee (E : Env) (ids : List Nat) (S2 : Nat → Prop) : Env :=
  { S := S2, w := E.w, H := fun j => ((ids[j]?).bind E.H).map (Root.ren (pos? ids)), G := fun j => (ids[j]?).bind E.G,
    F := fun b => b < E.w.heap.size ∧ ¬ Own (fun j => (ids[j]?).bind E.G) b ∧ ¬ S2 b }

theorem callee_own {E : Env} {ids : List Nat} {S2 : Nat → Prop} {b : Nat} (h : Own (E.callee ids S2).G b) : ∃ r gr, r ∈ ids ∧ E.G r = some gr ∧ b ∈ gr.blocks := by
  obtain ⟨j, gr, hgr, hb⟩ := h
  obtain ⟨r, hr, hgr⟩ := Option.bind_eq_some_iff.1 hgr
  exact ⟨r, gr, List.mem_of_getElem? hr, hgr, hb⟩

theorem callee_good {E : Env} {n : Nat → Prop} {ids : List Nat} {S2 : Nat → Prop} (hg : Good E n) (hn : ids.Nodup) (hS0 : ∀ b, E.S b → S2 b) (hS2 : ∀ b, S2 b → E.S b ∨ ∃ r gr, r ∉ ids ∧ E.G r = some gr ∧ b ∈ gr.blocks) :
    Ren E (E.callee ids S2) (pos? ids) ∧ Good (E.callee ids S2) (· < ids.length) := by
  have hr : Ren E (E.callee ids S2) (pos? ids) := ⟨rfl, fun r j h => by simp only [Env.callee, pos?_some h, Option.bind_some], fun r j h => by simp only [Env.callee, pos?_some h, Option.bind_some]⟩
  have hlt : ∀ b, S2 b → b < E.w.heap.size ∧ ¬ Own (E.callee ids S2).G b := by
    intro b hb
    rcases hS2 b hb with h | ⟨r, gr, h1, h2, h3⟩
    · obtain ⟨a1, a2, _⟩ := (hg.S b).1 h
      exact ⟨a1, fun ho => by obtain ⟨r, gr, _, h2, h3⟩ := callee_own ho; exact a2 ⟨r, gr, h2, h3⟩⟩
    · refine ⟨hg.lt b ⟨r, gr, h2, h3⟩, fun ho => ?_⟩
      obtain ⟨r', gr', h4, h5, h6⟩ := callee_own ho
      exact hg.apart r r' gr gr' (fun e => h1 (e ▸ h4)) h2 h5 b h3 h6
  refine ⟨hr, hr.good hg (fun r j root _ _ => .inl hS0) (fun r r' j h h' => ?_) (fun j => ?_) (fun r j h => ?_) (fun b => ⟨fun hb => ?_, fun hb => ?_⟩) (fun b hb => ⟨hb.1, hb.2.1⟩)⟩
  · have a := pos?_some h
    have b := pos?_some h'
    rw [a] at b
    injection b
  · cases hj : ids[j]? with
    | none => exact .inr ⟨by simp only [Env.callee, hj]; rfl, by simp only [Env.callee, hj]; rfl⟩
    | some r => exact .inl ⟨r, pos?_of hn hj⟩
  · exact (List.getElem?_eq_some_iff.1 (pos?_some h)).1
  · obtain ⟨h1, h2⟩ := hlt b hb
    exact ⟨h1, h2, fun hf => hf.2.2 hb⟩
  · obtain ⟨h1, h2, h3⟩ := hb
    exact Classical.byContradiction fun hns => h3 ⟨h1, h2, hns⟩

theorem rowsAny_mem : ∀ {l : List (Option Root)} {j : Nat} {root : Root}, rowsAny l = false → l[j]? = some (some root) → root.rows = false
  | [], _, _, _, h => by simp at h
  | none :: l, j, root, hr, h => by
    cases j with
    | zero => simp at h
    | succ j => exact rowsAny_mem (l := l) hr (by simpa using h)
  | some x :: l, j, root, hr, h => by
    simp only [rowsAny, Bool.or_eq_false_iff] at hr
    cases j with
    | zero => simp at h; subst h; exact hr.1
    | succ j => exact rowsAny_mem (l := l) hr.2 (by simpa using h)

open Classical in
noncomputable def backG (names : Nat → Option Nat) (G' G : Nat → Option GRoot) : Nat → Option GRoot := fun r => if h : ∃ j, names j = some r then G' (Classical.choose h) else G r
theorem backG_in {names : Nat → Option Nat} {G' G : Nat → Option GRoot} {r j : Nat} (hinj : ∀ j j' id, names j = some id → names j' = some id → j = j') (h : names j = some r) : backG names G' G r = G' j := by
  have he : ∃ j, names j = some r := ⟨j, h⟩
  unfold backG
  rw [dif_pos he, hinj _ _ _ (Classical.choose_spec he) h]
theorem backG_out {names : Nat → Option Nat} {G' G : Nat → Option GRoot} {r : Nat} (h : ∀ j, names j ≠ some r) : backG names G' G r = G r := by
  unfold backG
  rw [dif_neg (fun ⟨j, hj⟩ => h j hj)]

theorem call_back {E E' : Env} {n n' : Nat → Prop} {ids : List Nat} {S2 : Nat → Prop} {v : AV} {x : Value} {roots2 : List (Option Root)} {m : Nat} (hg : Good E n) (hn : ids.Nodup) (hal : ∀ r ∈ ids, n r) (hS0 : ∀ b, E.S b → S2 b)
    (hS2 : ∀ b, S2 b → E.S b ∨ ∃ r gr, r ∉ ids ∧ E.G r = some gr ∧ b ∈ gr.blocks) (fresh : ∀ i, i < 8 → ¬ n (m + i)) (hnn : ∀ q, n q → n' q) (hm8 : ∀ i, i < 8 → n' (m + i)) (hlen : ids.length ≤ roots2.length) (hlen2 : roots2.length ≤ ids.length + 8)
    (hb : Back (E.callee ids S2) ids.length v roots2 x E') (hrows : (∀ b, S2 b → E.S b) ∨ (hasRows v || rowsAny roots2) = false) :
    ∃ E3, E3.w = E'.w ∧ Post E n ⟨v.ren (backName ids m roots2.length), giveBack (backName ids m roots2.length) 0 roots2 E.H⟩ n' x E3 := by
  obtain ⟨nm1, nm2, nm3⟩ := backName_spec (nid := m) (bound := roots2.length) hn (fun i hi hmem => fresh i (by omega) (hal _ hmem))
  generalize hnames : backName ids m roots2.length = names at nm1 nm2 nm3 ⊢
  have nlt : ∀ j id, names j = some id → j < roots2.length := by
    intro j id h
    rcases nm1 j id h with h | h
    · have := (List.getElem?_eq_some_iff.1 h).1; omega
    · exact h.2.1
  have nids : ∀ j r, ids[j]? = some r → names j = some r := by
    intro j r h
    obtain ⟨id, hid⟩ := nm2 j (by have := (List.getElem?_eq_some_iff.1 h).1; omega)
    rcases nm1 j id hid with h' | h'
    · rw [h] at h'; injection h' with h'; rw [hid, h']
    · have := (List.getElem?_eq_some_iff.1 h).1; omega
  have nn' : ∀ j id, names j = some id → n' id := by
    intro j id h
    rcases nm1 j id h with h' | ⟨h1, h2, rfl⟩
    · exact hnn _ (hal _ (List.mem_of_getElem? h'))
    · exact hm8 _ (by omega)
  let H3 : Heap := giveBack names 0 roots2 E.H
  let G3 := backG names E'.G E.G
  let E3 : Env := { S := fun b => b < E'.w.heap.size ∧ ¬ Own G3 b ∧ ¬ E.F b, w := E'.w, H := H3, G := G3, F := E.F }
  have Hin : ∀ j r, names j = some r → H3 r = (E'.H j).map (Root.ren names) := by
    intro j r h
    have hj := nlt j r h
    have := giveBack_get (names := names) roots2 0 E.H (fun i i' id _ _ h1 h2 => nm3 i i' id (by simpa using h1) (by simpa using h2)) j roots2[j] r (List.getElem?_eq_getElem hj) (by simpa using h)
    show giveBack names 0 roots2 E.H r = _
    rw [this, hb.H, heapFrom_zero, List.getElem?_eq_getElem hj]
    rfl
  have Hout : ∀ r, (∀ j, names j ≠ some r) → H3 r = E.H r := fun r h => giveBack_other roots2 0 E.H r (fun i _ => by rw [Nat.zero_add]; exact h i)
  have Gin : ∀ j r, names j = some r → G3 r = E'.G j := fun j r h => backG_in nm3 h
  have Gout : ∀ r, (∀ j, names j ≠ some r) → G3 r = E.G r := fun r h => backG_out h
  have notIds : ∀ r, (∀ j, names j ≠ some r) → r ∉ ids := fun r h hr => by
    obtain ⟨j, hj⟩ := List.getElem?_of_mem hr
    exact h j (nids j r hj)
  have own3 : ∀ b, Own G3 b → Own E'.G b ∨ ∃ r gr, r ∉ ids ∧ E.G r = some gr ∧ b ∈ gr.blocks := by
    rintro b ⟨r, gr, hgr, hbb⟩
    by_cases h : ∃ j, names j = some r
    · obtain ⟨j, hj⟩ := h
      rw [Gin j r hj] at hgr
      exact .inl ⟨j, gr, hgr, hbb⟩
    · have h' : ∀ j, names j ≠ some r := fun j hj => h ⟨j, hj⟩
      rw [Gout r h'] at hgr
      exact .inr ⟨r, gr, notIds r h', hgr, hbb⟩
  have ownE : ∀ b, Own E'.G b → b < E.w.heap.size → ∃ r gr, r ∈ ids ∧ E.G r = some gr ∧ b ∈ gr.blocks := fun b h hlt => callee_own (hb.own b h hlt)
  have out_c : ∀ r gr b, r ∉ ids → E.G r = some gr → b ∈ gr.blocks → ¬ Own (E.callee ids S2).G b := by
    intro r gr b hr hgr hbb ho
    obtain ⟨r', gr', h1, h2, h3⟩ := callee_own ho
    exact hg.apart r r' gr gr' (fun e => hr (e ▸ h1)) hgr h2 b hbb h3
  have hsz : E.w.heap.size ≤ E'.w.heap.size := hb.tr.size
  have hF : E'.F = (E.callee ids S2).F := hb.F
  have sub : ∀ y : Bool, (y = true → (hasRows v || rowsAny roots2) = true) → SubS E' E3 y := by
    intro y hy
    rcases hrows with hs | hs
    · refine .inl fun b hbS => ?_
      obtain ⟨h1, h2, h3⟩ := (hb.good.S b).1 hbS
      rw [hF] at h3
      refine ⟨h1, fun ho => ?_, fun hf => ?_⟩
      · rcases own3 b ho with ho | ⟨r, gr, hr, hgr, hbb⟩
        · exact h2 ho
        · have hlt := hg.lt b ⟨r, gr, hgr, hbb⟩
          exact h3 ⟨hlt, out_c r gr b hr hgr hbb, fun hs2 => ((hg.S b).1 (hs b hs2)).2.1 ⟨r, gr, hgr, hbb⟩⟩
      · obtain ⟨f1, f2⟩ := hg.F b hf
        exact h3 ⟨f1, fun ho => by obtain ⟨r, gr, _, a, c⟩ := callee_own (S2 := S2) ho; exact f2 ⟨r, gr, a, c⟩, fun hs2 => ((hg.S b).1 (hs b hs2)).2.2 hf⟩
    · right
      cases y with
      | false => rfl
      | true => rw [hy rfl] at hs; cases hs
  have hRen : Ren E' E3 names := ⟨rfl, fun r j h => Hin r j h, fun r j h => Gin r j h⟩
  have hstay : ∀ b, E.S b → E3.S b ∧ E3.w.heap[b]? = E.w.heap[b]? := by
    intro b hbS
    obtain ⟨h1, h2, h3⟩ := (hg.S b).1 hbS
    refine ⟨⟨Nat.lt_of_lt_of_le h1 hsz, fun ho => ?_, h3⟩, hb.tr.keep b h1 (fun ho => by obtain ⟨r, gr, _, a, c⟩ := callee_own ho; exact h2 ⟨r, gr, a, c⟩)⟩
    rcases own3 b ho with ho | ⟨r, gr, _, a, c⟩
    · obtain ⟨r, gr, _, a, c⟩ := ownE b ho h1; exact h2 ⟨r, gr, a, c⟩
    · exact h2 ⟨r, gr, a, c⟩
  have hext : Ext n E E3 := by
    refine ⟨hstay, fun r hr => ?_⟩
    by_cases h : ∃ j, names j = some r
    · obtain ⟨j, hj⟩ := h
      show ExtR (E.H r) (H3 r) (E.G r) (G3 r)
      rw [Hin j r hj, Gin j r hj]
      rcases nm1 j r hj with h' | ⟨h1, h2, rfl⟩
      · have := hb.ext.roots j (List.getElem?_eq_some_iff.1 h').1
        have e1 : (E.callee ids S2).H j = (E.H r).map (Root.ren (pos? ids)) := by simp only [Env.callee, h', Option.bind_some]
        have e2 : (E.callee ids S2).G j = E.G r := by simp only [Env.callee, h', Option.bind_some]
        rw [e1, e2] at this
        exact this.ren_l.ren_r
      · exact absurd hr (fresh _ (by omega))
    · have h' : ∀ j, names j ≠ some r := fun j hj => h ⟨j, hj⟩
      show ExtR (E.H r) (H3 r) (E.G r) (G3 r)
      rw [Hout r h', Gout r h']
      exact ExtR.refl _ _ (fun fl k xs ver hole hr => by
        obtain ⟨A, c, els, hG, _⟩ := hg.arr r fl k xs ver hole hr
        exact ⟨_, hG, rfl⟩)
  have hgood : Good E3 n' := by
    refine ⟨fun b => Iff.rfl, fun r root hr => ?_, fun r hr => ?_, fun b hbo => ?_, fun r r' gr gr' hne h1 h2 b hbb hbb' => ?_, fun r gr hgr => ?_, fun r root hr => ?_, fun b hf => ?_⟩
    · by_cases h : ∃ j, names j = some r
      · obtain ⟨j, hj⟩ := h
        have hr' : H3 r = some root := hr
        rw [Hin j r hj] at hr'
        obtain ⟨root0, h0, rfl⟩ := Option.map_eq_some_iff.1 hr'
        obtain ⟨gr, hgr, hrel⟩ := hb.good.roots j root0 h0
        refine ⟨gr, (Gin j r hj).trans hgr, hrel.ren hRen (sub _ fun hy => ?_)⟩
        cases hra : rowsAny roots2 with
        | true => simp
        | false =>
          rw [hb.H, heapFrom_zero] at h0
          have : roots2[j]? = some (some root0) := by
            cases hj2 : roots2[j]? with
            | none => rw [hj2] at h0; cases h0
            | some y => rw [hj2] at h0; simp at h0; rw [h0]
          rw [rowsAny_mem hra this] at hy
          cases hy
      · have h' : ∀ j, names j ≠ some r := fun j hj => h ⟨j, hj⟩
        have hr' : H3 r = some root := hr
        rw [Hout r h'] at hr'
        obtain ⟨gr, hgr, hrel⟩ := hg.roots r root hr'
        refine ⟨gr, (Gout r h').trans hgr, hrel.keep hext (hg.names r root hr').2 (fun b hbb => ?_)⟩
        exact hb.tr.keep b (hg.lt b ⟨r, gr, hgr, hbb⟩) (out_c r gr b (notIds r h') hgr hbb)
    · by_cases h : ∃ j, names j = some r
      · obtain ⟨j, hj⟩ := h
        have hr' : H3 r = none := hr
        rw [Hin j r hj] at hr'
        exact (Gin j r hj).trans (hb.good.none j (by simpa using hr'))
      · have h' : ∀ j, names j ≠ some r := fun j hj => h ⟨j, hj⟩
        have hr' : H3 r = none := hr
        rw [Hout r h'] at hr'
        exact (Gout r h').trans (hg.none r hr')
    · rcases own3 b hbo with ho | ⟨r, gr, _, a, c⟩
      · exact hb.good.lt b ho
      · exact Nat.lt_of_lt_of_le (hg.lt b ⟨r, gr, a, c⟩) hsz
    · have h1' : G3 r = some gr := h1
      have h2' : G3 r' = some gr' := h2
      by_cases h : ∃ j, names j = some r
      · obtain ⟨j, hj⟩ := h
        rw [Gin j r hj] at h1'
        by_cases h' : ∃ j, names j = some r'
        · obtain ⟨j', hj'⟩ := h'
          rw [Gin j' r' hj'] at h2'
          exact hb.good.apart j j' gr gr' (fun e => hne (by subst e; rw [hj] at hj'; injection hj')) h1' h2' b hbb hbb'
        · have h'' : ∀ j, names j ≠ some r' := fun j hj => h' ⟨j, hj⟩
          rw [Gout r' h''] at h2'
          obtain ⟨q, gq, hq, a, c⟩ := ownE b ⟨j, gr, h1', hbb⟩ (hg.lt b ⟨r', gr', h2', hbb'⟩)
          exact hg.apart q r' gq gr' (fun e => notIds r' h'' (e ▸ hq)) a h2' b c hbb'
      · have hr : ∀ j, names j ≠ some r := fun j hj => h ⟨j, hj⟩
        rw [Gout r hr] at h1'
        by_cases h' : ∃ j, names j = some r'
        · obtain ⟨j', hj'⟩ := h'
          rw [Gin j' r' hj'] at h2'
          obtain ⟨q, gq, hq, a, c⟩ := ownE b ⟨j', gr', h2', hbb'⟩ (hg.lt b ⟨r, gr, h1', hbb⟩)
          exact hg.apart q r gq gr (fun e => notIds r hr (e ▸ hq)) a h1' b c hbb
        · have hr' : ∀ j, names j ≠ some r' := fun j hj => h' ⟨j, hj⟩
          rw [Gout r' hr'] at h2'
          exact hg.apart r r' gr gr' hne h1' h2' b hbb hbb'
    · have h1' : G3 r = some gr := hgr
      by_cases h : ∃ j, names j = some r
      · obtain ⟨j, hj⟩ := h
        rw [Gin j r hj] at h1'
        exact hb.good.nodup j gr h1'
      · rw [Gout r (fun j hj => h ⟨j, hj⟩)] at h1'
        exact hg.nodup r gr h1'
    · have hr' : H3 r = some root := hr
      by_cases h : ∃ j, names j = some r
      · obtain ⟨j, hj⟩ := h
        rw [Hin j r hj] at hr'
        obtain ⟨root0, h0, rfl⟩ := Option.map_eq_some_iff.1 hr'
        refine ⟨nn' j r hj, fun q hq => ?_⟩
        obtain ⟨q0, _, hq0⟩ := rootRen_ids root0 q hq
        exact nn' q0 q hq0
      · rw [Hout r (fun j hj => h ⟨j, hj⟩)] at hr'
        obtain ⟨a, c⟩ := hg.names r root hr'
        exact ⟨hnn _ a, fun q hq => hnn _ (c q hq)⟩
    · obtain ⟨f1, f2⟩ := hg.F b hf
      refine ⟨Nat.lt_of_lt_of_le f1 hsz, fun ho => ?_⟩
      rcases own3 b ho with ho | ⟨r, gr, _, a, c⟩
      · obtain ⟨r, gr, _, a, c⟩ := ownE b ho f1; exact f2 ⟨r, gr, a, c⟩
      · exact f2 ⟨r, gr, a, c⟩
  refine ⟨E3, rfl, rfl, hgood, hext, RelV.ren hRen v x (sub _ fun hy => by rw [hy]; rfl) hb.rel, fun q hq => ?_, ⟨hb.tr.size, hb.tr.os, hb.tr.tape, hb.tr.output, fun b hlt hno => ?_⟩, fun b ho hlt => ?_, rfl⟩
  · obtain ⟨q0, _, hq0⟩ := ren_ids v q hq
    exact nn' q0 q hq0
  · exact hb.tr.keep b hlt (fun ho => by obtain ⟨r, gr, _, a, c⟩ := callee_own ho; exact hno ⟨r, gr, a, c⟩)
  · rcases own3 b ho with ho | ⟨r, gr, _, a, c⟩
    · obtain ⟨r, gr, _, a, c⟩ := ownE b ho hlt; exact ⟨r, gr, a, c⟩
    · exact ⟨r, gr, a, c⟩
end Go.Lite
end

section
/-
  LITE 47: a call, and a function's end.
-/
set_option linter.unusedVariables false
set_option linter.unusedSimpArgs false
namespace Go.Lite
open Go Go.RowKit

section
variable {P : Program} {hint : Nat → Hint} {glob : Nat → Option Comp} {E : Env} {n : Nat → Prop}

theorem relAll_ext {n1 : Nat → Prop} {E1 : Env} (hx : Ext n1 E E1) {vs : List AV} {xs : List Value} (hn : ∀ q ∈ idsAll vs, n1 q) (h : All2 (RelV E) vs xs) : All2 (RelV E1) vs xs := RelAll2.ext hx hn h

theorem doCall_ok {callF : CallF} {f : FuncId} {args : List AV} {xs : List Value} {n' : Nat → Prop} {m : Nat} {v : AV} {H' : Heap} (hspec : CallSpec P glob callF) (hgl : GlobOk glob E) (hg : Good E n) (hx : All2 (RelV E) args xs) (hn : ∀ q ∈ idsAll args, n q)
    (fresh : ∀ i, i < 8 → ¬ n (m + i)) (hnn : ∀ q, n q → n' q) (hm8 : ∀ i, i < 8 → n' (m + i)) (h : doCall (mkCx P hint glob) callF f args E.H m = some (v, H')) :
    (∃ fn, P.funcs[f]? = some fn ∧ fn.body.isSome = true) ∧ Calls P f xs.toArray E.w (fun e w' => ∃ x E', e = .returned x ∧ E'.w = w' ∧ Post E n ⟨v, H'⟩ n' x E') := by
  unfold doCall at h
  split at h
  · cases h
  · rename_i fn hfn
    split at h
    · rename_i c args2 lent hbody hho
      refine ⟨⟨fn, hfn, by rw [hbody]; rfl⟩, ?_⟩
      split at h
      · cases h
      · rename_i ids hids
        split at h
        · rename_i roots hlent hroots
          split at h
          · cases h
          · rename_i v2 roots2 hcall
            obtain ⟨hc, h⟩ := chk_some h
            simp only [Bool.and_eq_true] at hc
            have hlen := of_decide_eq_true hc.1
            have hlen2 := of_decide_eq_true hc.2
            simp only [Option.some.injEq, Prod.mk.injEq] at h
            obtain ⟨rfl, rfl⟩ := h
            obtain ⟨hnd, _, halive⟩ := reach_spec _ _ _ _ hids (by simp)
            have halive' : ∀ r ∈ ids, ∃ root, E.H r = some root := fun r hr => (halive r hr).resolve_left (by simp)
            have hal : ∀ r ∈ ids, n r := fun r hr => by obtain ⟨root, h⟩ := halive' r hr; exact hg.id_lt h
            have hapart : ∀ r ∈ lent, r ∉ ids := by
              intro r hr hr'
              have : lent.any ids.contains = true := List.any_eq_true.2 ⟨r, hr, by simpa using hr'⟩
              rw [this] at hlent
              cases hlent
            obtain ⟨hrl, hrg⟩ := mapAll_get hroots
            -- from an environment in which the arguments are as they are handed over
            have go : ∀ (E0 : Env) (S2 : Nat → Prop), Step1 E n E0 n → E0.w = E.w → (∀ r ∈ ids, E0.H r = E.H r) → (∀ b, E0.S b → S2 b) → (∀ b, S2 b → E0.S b ∨ ∃ r gr, r ∉ ids ∧ E0.G r = some gr ∧ b ∈ gr.blocks) → Lent E.H E S2 lent →
                ((∀ b, S2 b → E0.S b) ∨ (hasRows v2 || rowsAny roots2) = false) →
                Calls P f xs.toArray E.w (fun e w' => ∃ x E', e = .returned x ∧ E'.w = w' ∧ Post E n ⟨v2.ren (backName ids m roots2.length), giveBack (backName ids m roots2.length) 0 roots2 E0.H⟩ n' x E') := by
              intro E0 S2 s0 w0 hH0 hS0 hS2 hl hrows
              obtain ⟨hRen, hGc⟩ := callee_good s0.good hnd hS0 hS2
              have hargs : All2 (RelV (E0.callee ids S2)) (renAll (pos? ids) args2) xs := by
                refine handOver_ok (E2 := E0.callee ids S2) hg (by show E0.w = E.w; exact w0) (fun u y hu hi => RelV.ren hRen _ _ (.inl hS0) (hu.ext s0.ext _ _ hi)) (fun b hb => hS0 b (s0.ext.stay b hb).1) _ _ _ _ _ _ hho hx hn hl
              have hrl' : (roots.map (Root.ren (pos? ids))).length = ids.length := by rw [List.length_map, hrl]
              have hHc : (E0.callee ids S2).H = heapFrom 0 ((roots.map (Root.ren (pos? ids))).map some) := by
                funext j
                rw [heapFrom_zero]
                show ((ids[j]?).bind E0.H).map (Root.ren (pos? ids)) = _
                cases hj : ids[j]? with
                | none =>
                  have : roots[j]? = none := by rw [List.getElem?_eq_none_iff] at hj ⊢; omega
                  simp [this]
                | some r =>
                  obtain ⟨root, h1, h2⟩ := hrg j r hj
                  simp [h1, hH0 r (List.mem_of_getElem? hj), h2]
              have hglc : GlobOk glob (E0.callee ids S2) := fun g c hgc => RelV.ren hRen (.at c.k c.d) _ (.inl hS0) ((hgl g c hgc).ext s0.ext _ _ (by simp [AV.ids]))
              have := hspec f _ _ _ _ hcall (E0.callee ids S2) xs (by rw [hrl']; exact hGc) hHc hglc hargs (fun q hq => by
                obtain ⟨r, _, hr⟩ := renAll_ids _ q hq
                rw [hrl']
                exact (List.getElem?_eq_some_iff.1 (pos?_some hr)).1)
              have hw : (E0.callee ids S2).w = E.w := w0
              rw [hw] at this
              refine Calls.mono this ?_
              rintro e w' ⟨x, E', he, hw', hback⟩
              rw [hrl'] at hback
              obtain ⟨E3, hw3, hp⟩ := call_back (n' := n') s0.good hnd hal hS0 hS2 fresh hnn hm8 hlen hlen2 hback hrows
              exact ⟨x, E3, he, hw3.trans hw', (s0.trans (hp.step hnn)).post hp.H hp.rel hp.names⟩
            cases hrw : (hasRows v2 || rowsAny roots2) with
            | true =>
              obtain ⟨E0, s0, hH0, w0, hl0, _⟩ := freeze_sub lent E.H E hg (Hid.refl _)
              have hH0' : E0.H = freeze E.H lent := funext fun r => ((hH0 r).2 (fun h => h)).symm
              have := go E0 E0.S s0 w0 (fun r hr => by rw [hH0']; exact freeze_other lent E.H r (fun h => hapart r h hr)) (fun _ h => h) (fun _ h => .inl h) hl0 (.inl fun _ h => h)
              rw [hH0'] at this
              exact this
            | false =>
              exact go E (fun b => E.S b ∨ ∃ r ∈ lent, ∃ gr, E.G r = some gr ∧ b ∈ gr.blocks) (Step1.refl hg (fun _ h => h)) rfl (fun _ _ => rfl) (fun _ h => .inl h) (fun b hb => hb.imp id (fun ⟨r, hr, gr, h1, h2⟩ => ⟨r, gr, hapart r hr, h1, h2⟩))
                (fun r hr fl k xs ver _ gr hgr b hb => .inr ⟨r, hr, gr, hgr, hb⟩) (.inr hrw)
        · cases h
    · cases h
end
end Go.Lite
end

section
/-
  LITE 48: a function's end.
-/
set_option linter.unusedVariables false
set_option linter.unusedSimpArgs false
namespace Go.Lite
open Go Go.RowKit

theorem array_mapM_run {P : Program} {α β : Type} {f : α → Sem β} {w : World} : ∀ (l : List α) (bs : List β), All2 (fun b a => (f a).run P w = .ok b w) bs l → (l.mapM f).run P w = .ok bs w
  | [], [], _ => rfl
  | a :: l, b :: bs, h => by
    rw [List.mapM_cons, Sem.run_bind, h.1, Result.andThen_ok, Sem.run_bind, array_mapM_run l bs h.2, Result.andThen_ok]
    rfl
  | [], _ :: _, h => h.elim
  | _ :: _, [], h => h.elim

section
variable {P : Program} {hint : Nat → Hint} {glob : Nat → Option Comp} {E : Env} {n : Nat → Prop}

theorem load_ptr {t : TypeId} {a r : AV} {va : Value} {H : Heap} (hv : RelV E a va) (h : load (mkCx P hint glob) H t a = some r) : ∃ ad, va = .pointer (some ad) := by
  unfold load at h
  split at h
  · obtain ⟨a, cs, h1, _⟩ := hv; exact ⟨_, h1⟩
  · obtain ⟨g, h1, _⟩ := hv; exact ⟨_, h1⟩
  · obtain ⟨_, ⟨a, h1⟩, _⟩ := hv; exact ⟨_, h1⟩
  · cases h

theorem loadVar_of {t : TypeId} {ad : Addr} {v : Value} {w : World} (h : (Instr.loadAt t (.pointer (some ad))).run P w = .ok v w) : (loadVar t ad).run P w = .ok v w := by
  have e : (Instr.loadAt t (.pointer (some ad))).run P w = (loadVar t ad).run P w := by unfold Instr.loadAt Instr.sureAddr; rfl
  rw [← e]; exact h

def resultRun (tmps : Array Value) (r : ResultVar) : Sem Value := match r with | .tmp t => pure (tmps.getD t undef) | .cell b t => do loadVar t (← asAddr (tmps.getD b undef))

/-- The results, as they stand at the end. -/
theorem results_ok {s : St} {a : Act} {fn : Func} {vs : List AV} (hs : RelS glob E n s a) (h : mapAll (fun r => match r with | .tmp t => some (s.slots t) | .cell a t => load (mkCx P hint glob) s.heap t (s.slots a)) fn.results.toList = some vs) :
    ∃ xs : List Value, All2 (RelV E) vs xs ∧ (∀ q ∈ idsAll vs, n q) ∧ (results fn a.tmps).run P E.w = .ok (if h : xs.toArray.size = 1 then xs.toArray[0] else .tuple xs.toArray) E.w := by
  have one : ∀ (r : ResultVar) (v : AV), (match r with | .tmp t => some (s.slots t) | .cell a t => load (mkCx P hint glob) s.heap t (s.slots a)) = some v →
      ∃ x, RelV E v x ∧ (∀ q ∈ v.ids, n q) ∧ (resultRun a.tmps r).run P E.w = .ok x E.w := by
    intro r v hr
    cases r with
    | tmp t =>
      simp only [Option.some.injEq] at hr
      subst hr
      exact ⟨_, hs.slots t, hs.names t, rfl⟩
    | cell b t =>
      simp only at hr
      rw [← hs.H] at hr
      obtain ⟨x, h1, h2, h3⟩ := load_ok hs.good (hs.slots b) (hs.names b) hr
      obtain ⟨ad, had⟩ := load_ptr (hs.slots b) hr
      refine ⟨x, h2, h3, ?_⟩
      rw [had] at h1
      show (do loadVar t (← asAddr (a.tmps.getD b undef)) : Sem Value).run P E.w = _
      rw [had]
      exact loadVar_of h1
  have key : ∀ (l : List ResultVar) (vs : List AV), mapAll (fun r => match r with | .tmp t => some (s.slots t) | .cell a t => load (mkCx P hint glob) s.heap t (s.slots a)) l = some vs →
      ∃ xs : List Value, All2 (RelV E) vs xs ∧ (∀ q ∈ idsAll vs, n q) ∧ All2 (fun x (r : ResultVar) => (resultRun a.tmps r).run P E.w = .ok x E.w) xs l := by
    intro l
    induction l with
    | nil => intro vs h; injection h with h; subst h; exact ⟨[], trivial, by simp [idsAll], trivial⟩
    | cons r l ih =>
      intro vs h
      simp only [mapAll] at h
      split at h
      · rename_i v hv
        split at h
        · rename_i vs' hvs
          injection h with h
          subst h
          obtain ⟨x, h1, h2, h3⟩ := one r v hv
          obtain ⟨xs, i1, i2, i3⟩ := ih vs' hvs
          refine ⟨x :: xs, ⟨h1, i1⟩, fun q hq => ?_, ⟨h3, i3⟩⟩
          simp only [idsAll, List.mem_append] at hq
          exact hq.elim (h2 q) (i2 q)
        · cases h
      · cases h
  obtain ⟨xs, h1, h2, h3⟩ := key _ _ h
  refine ⟨xs, h1, h2, ?_⟩
  have hm := array_mapM_run (P := P) (w := E.w) (f := resultRun a.tmps) fn.results.toList xs h3
  have e : results fn a.tmps = (do let vs ← fn.results.mapM (resultRun a.tmps); pure (if h : vs.size = 1 then vs[0] else .tuple vs)) := rfl
  rw [e, Sem.run_bind, Array.mapM_eq_mapM_toList, Sem.run_map, hm]
  rfl

theorem finishV_ok {keep : List Nat} : ∀ (ts : List TypeId) (i : Nat) (vs : List AV) (xs : List Value) (E : Env) (H : Heap) (vs2 : List AV) (H2 : Heap), Good E n → E.H = H → All2 (RelV E) vs xs → (∀ q ∈ idsAll vs, n q) →
    finishV (mkCx P hint glob) keep i ts vs H = some (vs2, H2) → ∃ E2, Step1 E n E2 n ∧ E2.H = H2 ∧ E2.w = E.w ∧ All2 (RelV E2) vs2 xs ∧ ∀ q ∈ idsAll vs2, n q
  | [], i, [], [], E, H, vs2, H2, hg, hH, hv, hn, h => by
    simp only [finishV, Option.some.injEq, Prod.mk.injEq] at h
    obtain ⟨rfl, rfl⟩ := h
    exact ⟨E, Step1.refl hg (fun _ h => h), hH, rfl, trivial, by simp [idsAll]⟩
  | [], i, [], x :: xs, E, H, vs2, H2, hg, hH, hv, hn, h => hv.elim
  | [], i, v :: vs, xs, E, H, vs2, H2, hg, hH, hv, hn, h => by cases h
  | t :: ts, i, [], xs, E, H, vs2, H2, hg, hH, hv, hn, h => by cases h
  | t :: ts, i, v :: vs, [], E, H, vs2, H2, hg, hH, hv, hn, h => hv.elim
  | t :: ts, i, v :: vs, x :: xs, E, H, vs2, H2, hg, hH, hv, hn, h => by
    have hn1 : ∀ q ∈ v.ids, n q := fun q hq => hn q (by simp [idsAll, hq])
    have hn2 : ∀ q ∈ idsAll vs, n q := fun q hq => hn q (by simp [idsAll, hq])
    subst hH
    simp only [finishV] at h
    split at h
    · rename_i k _ _
      split at h
      · rename_i d l H3 hd hf
        simp only [Option.some.injEq, Prod.mk.injEq] at h
        obtain ⟨rfl, rfl⟩ := h
        have first : ∃ E1, Step1 E n E1 n ∧ E1.H = (match k.flatRows with | true => E.H | false => freeze E.H v.ids) ∧ E1.w = E.w ∧ RelV E1 (.data k d) x := by
          cases hk : k.flatRows with
          | true =>
            obtain ⟨h1, h2, h3⟩ := asData_ok (S' := fun _ => True) hg (SubH.refl _) (fun _ _ => trivial) (fun _ _ _ _ _ _ _ _ _ _ _ => trivial) hv.1 hd
            exact ⟨E, Step1.refl hg (fun _ h => h), rfl, rfl, dataV ⟨RepC.flat k hk _ _ h1, h2, h3⟩⟩
          | false =>
            obtain ⟨E1, s1, hH1, w1, hl, _⟩ := freeze_sub v.ids E.H E hg (Hid.refl _)
            obtain ⟨h1, h2, h3⟩ := asData_ok (S' := E1.S) hg (SubH.refl _) (fun b hb => (s1.ext.stay b hb).1) hl hv.1 hd
            exact ⟨E1, s1, funext fun r => ((hH1 r).2 (fun h => h)).symm, w1, dataV ⟨by rw [w1]; exact h1, h2, h3⟩⟩
        obtain ⟨E1, s1, hH1, w1, hr1⟩ := first
        obtain ⟨E2, s2, hH2, w2, hr2, hn3⟩ := finishV_ok ts (i + 1) vs xs E1 _ l H3 s1.good hH1 (relAll_ext s1.ext hn2 hv.2) hn2 hf
        exact ⟨E2, s1.trans s2, hH2, w2.trans w1, ⟨hr1.ext s2.ext _ _ (by simp [AV.ids]), hr2⟩, fun q hq => by simp only [idsAll, AV.ids, List.nil_append] at hq; exact hn3 q hq⟩
      · cases h
    · split at h
      · rename_i l H3 hf
        simp only [Option.some.injEq, Prod.mk.injEq] at h
        obtain ⟨rfl, rfl⟩ := h
        obtain ⟨E2, s2, hH2, w2, hr2, hn3⟩ := finishV_ok ts (i + 1) vs xs E _ l H3 hg rfl hv.2 hn2 hf
        exact ⟨E2, s2, hH2, w2, ⟨hv.1.ext s2.ext _ _ hn1, hr2⟩, fun q hq => by
          simp only [idsAll, List.mem_append] at hq
          exact hq.elim (hn1 q) (hn3 q)⟩
      · cases h
end
end Go.Lite
end

section
/-
  LITE 49: what a function hands back.
-/
set_option linter.unusedVariables false
set_option linter.unusedSimpArgs false
namespace Go.Lite
open Go Go.RowKit

theorem notFrozen_some {x : Option Root} {root : Root} (h : notFrozen x = some root) : x = some root := by
  unfold notFrozen at h
  split at h
  · cases h
  · exact h

section
variable {P : Program} {hint : Nat → Hint} {glob : Nat → Option Comp} {E : Env} {n : Nat → Prop}

theorem finish_ok {s : St} {a : Act} {fn : Func} {keep : List Nat} {m : Nat} {v : AV} {roots2 : List (Option Root)} (hs : RelS glob E n s a) (hmn : ∀ j, j < m → n j) (h : finish (mkCx P hint glob) fn keep m s = some (v, roots2)) :
    ∃ x E2, (results fn a.tmps).run P E.w = .ok x E.w ∧ E2.w = E.w ∧ Good E2 (· < roots2.length) ∧ Ext (· < m) E E2 ∧ E2.H = heapFrom 0 roots2 ∧ RelV E2 v x ∧ (∀ q ∈ v.ids, q < roots2.length) ∧ (∀ b, Own E2.G b → Own E.G b) ∧ E2.F = E.F := by
  unfold finish at h
  split at h
  · cases h
  · rename_i vs hvs
    obtain ⟨xs, r1, r2, r3⟩ := results_ok hs hvs
    split at h
    · cases h
    · rename_i vs2 H2 hfv
      obtain ⟨E1, s1, hH1, w1, q1, q2⟩ := finishV_ok _ _ _ _ E _ _ _ hs.good hs.H r1 r2 hfv
      subst hH1
      -- the one result, or the tuple of them
      obtain ⟨u, x, hu, hx, hru, hun⟩ : ∃ u x, u = oneOf vs2 ∧ x = (if h : xs.toArray.size = 1 then xs.toArray[0] else Value.tuple xs.toArray) ∧ RelV E1 u x ∧ ∀ q ∈ u.ids, n q := by
        match vs2, xs, q1, q2 with
        | [v], [x], q1, q2 => exact ⟨_, _, rfl, rfl, q1.1, fun q hq => q2 q (by have h : q ∈ v.ids := hq; simpa [idsAll] using h)⟩
        | [], [], q1, q2 => exact ⟨_, _, rfl, rfl, ⟨#[], rfl, RelAll.iff.2 trivial⟩, fun q hq => q2 q hq⟩
        | v :: v' :: vs, x :: x' :: xs, q1, q2 =>
          refine ⟨_, _, rfl, rfl, ?_, fun q hq => q2 q hq⟩
          rw [dif_neg (by simp)]
          exact ⟨_, rfl, RelAll.iff.2 q1⟩
        | [], _ :: _, q1, q2 => exact q1.elim
        | _ :: _, [], q1, q2 => exact q1.elim
        | [_], _ :: _ :: _, q1, q2 => exact q1.2.elim
        | _ :: _ :: _, [_], q1, q2 => exact q1.2.elim
      rw [← hx] at r3
      rw [← hu] at h
      unfold finishAt at h
      split at h
      · cases h
      · rename_i ids hids
        simp only [Option.some.injEq, Prod.mk.injEq] at h
        obtain ⟨hnd, _, halive⟩ := reach_spec _ _ _ _ hids (by simp)
        generalize hnew : ids.filter (fun r => decide (m ≤ r)) = new at h
        have hnd2 : new.Nodup := by rw [← hnew]; exact hnd.filter _
        have hmem : ∀ r ∈ new, m ≤ r ∧ ∃ root, notFrozen (E1.H r) = some root := by
          intro r hr
          rw [← hnew, List.mem_filter] at hr
          exact ⟨of_decide_eq_true hr.2, (halive r hr.1).resolve_left (by simp)⟩
        generalize hnm : downName (fun r => notFrozen (E1.H r)) m new = names at h
        have nm : ∀ r j, names r = some j → (∃ root, notFrozen (E1.H r) = some root) ∧ ((r < m ∧ j = r) ∨ (m ≤ r ∧ m ≤ j ∧ new[j - m]? = some r)) := by
          intro r j h
          rw [← hnm] at h
          unfold downName at h
          split at h
          · cases h
          · rename_i root hroot
            refine ⟨⟨root, hroot⟩, ?_⟩
            split at h
            · rename_i hlt
              injection h with h
              exact .inl ⟨of_decide_eq_true hlt, h.symm⟩
            · rename_i hlt
              have hlt := of_decide_eq_false hlt
              split at h
              · rename_i i hi
                injection h with h
                subst h
                have := pos?_some hi
                exact .inr ⟨by omega, by omega, by rw [show m + i - m = i by omega]; exact this⟩
              · cases h
        have nmlt : ∀ r root, r < m → notFrozen (E1.H r) = some root → names r = some r := by
          intro r root hlt hr
          rw [← hnm]
          simp only [downName, hr, decide_eq_true hlt]
        have nmnew : ∀ i r, new[i]? = some r → names r = some (m + i) := by
          intro i r hi
          obtain ⟨h1, root, h2⟩ := hmem r (List.mem_of_getElem? hi)
          rw [← hnm]
          simp only [downName, h2, decide_eq_false (show ¬ r < m by omega), pos?_of hnd2 hi]
        obtain ⟨rfl, hroots⟩ := h
        let G2 : Nat → Option GRoot := fun j => if j < m then (match notFrozen (E1.H j) with | none => none | some _ => E1.G j) else (new[j - m]?).bind E1.G
        let E2 : Env := { S := fun b => b < E1.w.heap.size ∧ ¬ Own G2 b ∧ ¬ E1.F b, w := E1.w, H := heapFrom 0 roots2, G := G2, F := E1.F }
        have rlen : roots2.length = m + new.length := by simp [← hroots]
        have rlt : ∀ j, j < m → roots2[j]? = some ((notFrozen (E1.H j)).map (Root.ren names)) := by
          intro j hj
          rw [← hroots]
          rw [List.getElem?_append_left (by simpa using hj), List.getElem?_map, List.getElem?_range hj]
          rfl
        have rge : ∀ j, m ≤ j → roots2[j]? = (new[j - m]?).map (fun r => (notFrozen (E1.H r)).map (Root.ren names)) := by
          intro j hj
          rw [← hroots]
          rw [List.getElem?_append_right (by simpa using hj), List.getElem?_map]
          simp
        have hH : ∀ r j, names r = some j → E2.H j = (E1.H r).map (Root.ren names) := by
          intro r j h
          obtain ⟨⟨root, hroot⟩, h | ⟨h1, h2, h3⟩⟩ := nm r j h
          · obtain ⟨hlt, rfl⟩ := h
            show heapFrom 0 roots2 j = _
            rw [heapFrom_zero, rlt j hlt, hroot, notFrozen_some hroot]
            rfl
          · show heapFrom 0 roots2 j = _
            rw [heapFrom_zero, rge j h2, h3, Option.map_some, hroot, notFrozen_some hroot]
            rfl
        have hG : ∀ r j, names r = some j → E2.G j = E1.G r := by
          intro r j h
          obtain ⟨⟨root, hroot⟩, h | ⟨h1, h2, h3⟩⟩ := nm r j h
          · obtain ⟨hlt, rfl⟩ := h
            show (if j < m then (match notFrozen (E1.H j) with | none => none | some _ => E1.G j) else (new[j - m]?).bind E1.G) = _
            rw [if_pos hlt, hroot]
          · show (if j < m then (match notFrozen (E1.H j) with | none => none | some _ => E1.G j) else (new[j - m]?).bind E1.G) = _
            rw [if_neg (by omega), h3]
            rfl
        have hRen : Ren E1 E2 names := ⟨rfl, hH, hG⟩
        have hown : ∀ b, Own G2 b → Own E1.G b := by
          rintro b ⟨j, gr, hgr, hb⟩
          simp only [G2] at hgr
          split at hgr
          · split at hgr
            · cases hgr
            · exact ⟨j, gr, hgr, hb⟩
          · obtain ⟨r, _, hgr⟩ := Option.bind_eq_some_iff.1 hgr
            exact ⟨r, gr, hgr, hb⟩
        have hSS : ∀ b, E1.S b → E2.S b := fun b hb => by
          obtain ⟨h1, h2, h3⟩ := (s1.good.S b).1 hb
          exact ⟨h1, fun ho => h2 (hown b ho), h3⟩
        have hgood : Good E2 (· < roots2.length) := by
          refine hRen.good s1.good (fun r j root _ _ => .inl hSS) (fun r r' j h h' => ?_) (fun j => ?_) (fun r j h => ?_) (fun b => Iff.rfl) (fun b hf => ?_)
          · obtain ⟨_, h | ⟨h1, h2, h3⟩⟩ := nm r j h
            · obtain ⟨_, h' | ⟨h1', h2', h3'⟩⟩ := nm r' j h'
              · omega
              · omega
            · obtain ⟨_, h' | ⟨h1', h2', h3'⟩⟩ := nm r' j h'
              · omega
              · rw [h3] at h3'; injection h3'
          · by_cases hj : j < m
            · cases hr : notFrozen (E1.H j) with
              | none =>
                refine .inr ⟨?_, ?_⟩
                · show heapFrom 0 roots2 j = none
                  rw [heapFrom_zero, rlt j hj, hr]; rfl
                · show (if j < m then (match notFrozen (E1.H j) with | none => none | some _ => E1.G j) else (new[j - m]?).bind E1.G) = _
                  rw [if_pos hj, hr]
              | some root => exact .inl ⟨j, nmlt j root hj hr⟩
            · cases hr : new[j - m]? with
              | none =>
                refine .inr ⟨?_, ?_⟩
                · show heapFrom 0 roots2 j = none
                  rw [heapFrom_zero, rge j (by omega), hr]; rfl
                · show (if j < m then (match notFrozen (E1.H j) with | none => none | some _ => E1.G j) else (new[j - m]?).bind E1.G) = _
                  rw [if_neg hj, hr]; rfl
              | some r => exact .inl ⟨r, by have := nmnew _ r hr; rwa [show m + (j - m) = j by omega] at this⟩
          · obtain ⟨_, h | ⟨h1, h2, h3⟩⟩ := nm r j h
            · rw [rlen]; omega
            · have := (List.getElem?_eq_some_iff.1 h3).1
              rw [rlen]; omega
          · obtain ⟨h1, h2⟩ := s1.good.F b hf
            exact ⟨h1, fun ho => h2 (hown b ho)⟩
        have hx2 : Ext (· < m) E1 E2 := by
          refine ⟨fun b hb => ⟨hSS b hb, rfl⟩, fun r hr => ?_⟩
          cases hroot : notFrozen (E1.H r) with
          | none =>
            have : E2.H r = none := by show heapFrom 0 roots2 r = none; rw [heapFrom_zero, rlt r hr, hroot]; rfl
            rw [this]
            trivial
          | some root =>
            have hnr := nmlt r root hr hroot
            rw [hH r r hnr, hG r r hnr]
            refine ExtR.ren_r (ExtR.refl _ _ (fun fl k xs ver hole hr => ?_))
            obtain ⟨A, c, els, hG, _⟩ := s1.good.arr r fl k xs ver hole hr
            exact ⟨_, hG, rfl⟩
        refine ⟨x, E2, r3, w1, hgood, (⟨s1.ext.stay, fun r hr => s1.ext.roots r (hmn r hr)⟩ : Ext (· < m) E E1).trans hx2 (fun _ h => h), rfl, RelV.ren hRen u x (.inl hSS) hru, fun q hq => ?_, fun b hb => ?_, s1.F⟩
        · obtain ⟨r, _, hr⟩ := ren_ids u q hq
          obtain ⟨_, h | ⟨h1, h2, h3⟩⟩ := nm r q hr
          · show q < roots2.length
            rw [rlen]; omega
          · have := (List.getElem?_eq_some_iff.1 h3).1
            show q < roots2.length
            rw [rlen]; omega
        · have h1 := hown b hb
          exact s1.own b h1 (by rw [← w1]; exact s1.good.lt b h1)
end
end Go.Lite
end

section
/-
  LITE 50: an operation in the walk.
-/
set_option linter.unusedVariables false
set_option linter.unusedSimpArgs false
namespace Go.Lite
open Go Go.RowKit

structure PHyp (P : Program) : Prop where
  mixed : P.follows .mixedOrders = true
  count : ∀ (f : Nat) (fn : Func), P.funcs[f]? = some fn → (fn.name == "runtime.NumGoroutine") = false

def upto (n : Nat → Prop) (m : Nat) : Nat → Prop := fun q => n q ∨ (m ≤ q ∧ q < m + 8)

section
variable {P : Program} {hint : Nat → Hint} {glob : Nat → Option Comp} {E : Env} {n : Nat → Prop}

theorem enter_run (hp : PHyp P) {o : Oper} {c : Call} {f : Operand} {g : FuncId} {fn : Func} {vs : Array Value} {a : Act} (hop : o.op = .call c) (hcal : c.callee = .value f) (hf : a.eval f = .func (.func g) #[] vs) (hfn : P.funcs[g]? = some fn) (hb : fn.body.isSome = true) (w : World) :
    (execOp a.eval o).run P w = .ok (.enter g (c.args.map a.eval ++ vs)) w := by
  have hb' : fn.body.isNone = false := by cases h : fn.body with | none => rw [h] at hb; cases hb | some _ => rfl
  have hc := hp.count g fn hfn
  unfold execOp
  simp only [hop, resolve, hcal, hf, Deferred.ofValue, Sem.run_bind, Sem.run_pure, Result.andThen_ok, invoke, callFunc]
  have hc' : ¬ fn.name = "runtime.NumGoroutine" := by simpa using hc
  have hb2 : ¬ fn.body = none := fun e => by rw [e] at hb; cases hb
  simp [hfn, program, Sem.run, hc', hb2]

theorem op_wp (hp : PHyp P) {h : Hint} {callF : CallF} {o : Oper} {s : St} {a : Act} {m : Nat} {r : Res} {K : Act → World → Prop} {Q : Exit → Act → World → Prop} (hspec : CallSpec P glob callF) (hgl : GlobOk glob E) (hg : Good E n) (hH : E.H = s.heap) (hev : Ev P hint glob E n s.slots a.eval)
    (fresh : ∀ i, i < 8 → ¬ n (m + i)) (he : evalOp (mkCx P hint glob) h callF o s m = some r) (hK : ∀ v E', Post E n r (upto n m) v E' → K (a.put o.dst v) E'.w) : o.wp P a E.w K Q := by
  by_cases hc : ∃ c f, o.op = .call c ∧ c.callee = .value f
  · obtain ⟨c, f, hop, hcal⟩ := hc
    unfold evalOp at he
    simp only [hop, hcal] at he
    split at he
    · cases he
    · rename_i args hargs
      obtain ⟨h1, h2⟩ := ev_all hev hargs
      split at he
      · rename_i g caps hf
        obtain ⟨v, H, hcall, rfl⟩ := mkO_some he
        obtain ⟨f1, f2⟩ := hev f _ hf
        obtain ⟨vs, hfv, hcaps⟩ := f1
        have hall : All2 (RelV E) (args ++ caps) ((c.args.map a.eval ++ vs).toList) := by
          rw [Array.toList_append, Array.toList_map]
          exact All2.append h1 (RelAll.iff.1 hcaps)
        rw [← hH] at hcall
        obtain ⟨⟨fn, hfn, hb⟩, hcalls⟩ := doCall_ok (n' := upto n m) hspec hgl hg hall (fun q hq => by
          rw [idsAll_append] at hq
          rcases List.mem_append.1 hq with hq | hq
          · exact h2 q hq
          · exact f2 q hq) fresh (fun q hq => .inl hq) (fun i hi => .inr ⟨by omega, by omega⟩) hcall
        unfold Oper.wp
        rw [enter_run hp hop hcal hfv hfn hb, Oper.upon_enter]
        rw [Array.toArray_toList] at hcalls
        refine Calls.mono hcalls ?_
        rintro e w' ⟨x, E', rfl, rfl, hpost⟩
        exact hK x E' hpost
      · cases he
  · obtain ⟨v, E', hrun, hpost⟩ := op_ok (n' := upto n m) hg hH hev (fresh 0 (by omega)) ⟨fun q hq => .inl hq, .inr ⟨by omega, by omega⟩⟩ (fun c f hop hcal => hc ⟨c, f, hop, hcal⟩) he
    rcases hrun with hrun | ⟨hrun, rfl⟩
    · exact wp_of_value hrun (hK v E' hpost)
    · exact wp_of_skip hrun (hK undef E' hpost)
end
end Go.Lite
end

section
/-
  LITE 51: operations one after another.
-/
set_option linter.unusedVariables false
set_option linter.unusedSimpArgs false
namespace Go.Lite
open Go Go.RowKit

/-- Where the walk is, and what the evaluator has of it. -/
structure AtS (glob : Nat → Option Comp) (nt : Nat) (E0 : Env) (N0 : Nat → Prop) (E : Env) (N : Nat → Prop) (s : St) (a : Act) : Prop where
  rel : RelS glob E N s a
  step : Step1 E0 N0 E N
  size : nt ≤ a.tmps.size
  defers : a.defers = []
def At (glob : Nat → Option Comp) (nt : Nat) (E0 : Env) (N0 : Nat → Prop) (s : St) (a : Act) (w : World) : Prop :=
  ∃ E N, E.w = w ∧ AtS glob nt E0 N0 E N s a ∧ ∀ q, s.next ≤ q → ¬ N q

section
variable {P : Program} {hint : Nat → Hint} {glob : Nat → Option Comp} {nt : Nat} {E0 E : Env} {N0 N : Nat → Prop}

theorem put_getD {a : Act} {d t : Nat} {v : Value} (hd : d < a.tmps.size) : (a.put (some d) v).tmps.getD t undef = if t = d then v else a.tmps.getD t undef := by
  simp only [Act.put, Array.getD_eq_getD_getElem?]
  by_cases h : t = d
  · subst h
    rw [if_pos rfl, Array.getElem?_setIfInBounds_self_of_lt hd]
    rfl
  · rw [if_neg h, Array.getElem?_setIfInBounds_ne (Ne.symm h)]
theorem put_size (a : Act) (d : Option Nat) (v : Value) : (a.put d v).tmps.size = a.tmps.size := by
  cases d with
  | none => rfl
  | some d => simp [Act.put]
theorem put_defers (a : Act) (d : Option Nat) (v : Value) : (a.put d v).defers = a.defers := by
  cases d <;> rfl

/-- The state after an operation. -/
theorem AtS.put {s : St} {a : Act} {o : Oper} {r : Res} {N' : Nat → Prop} {v : Value} {E' : Env} {next : Nat} (h : AtS glob nt E0 N0 E N s a) (hp : Post E N r N' v E') (hN : ∀ q, N q → N' q) (hd : ∀ d, o.dst = some d → d < nt) :
    AtS glob nt E0 N0 E' N' ⟨putD o.dst r.v s.slots, r.H, next⟩ (a.put o.dst v) := by
  have hs := h.rel
  have hx := hp.ext
  refine ⟨⟨hp.H, hp.good, fun t => ?_, fun t q hq => ?_, fun g c hgc => (hs.glob g c hgc).ext hx _ _ (by simp [AV.ids])⟩, h.step.trans (hp.step hN), by rw [put_size]; exact h.size, by rw [put_defers]; exact h.defers⟩
  · cases ho : o.dst with
    | none => exact (hs.slots t).ext hx _ _ (hs.names t)
    | some d =>
      have hdt := Nat.lt_of_lt_of_le (hd d ho) h.size
      show RelV E' (upd d r.v s.slots t) _
      rw [put_getD hdt]
      by_cases ht : t = d
      · subst ht; rw [upd_same, if_pos rfl]; exact hp.rel
      · rw [upd_other _ _ ht, if_neg ht]; exact (hs.slots t).ext hx _ _ (hs.names t)
  · cases ho : o.dst with
    | none => rw [ho] at hq; exact hN q (hs.names t q hq)
    | some d =>
      rw [ho] at hq
      have hq : q ∈ (upd d r.v s.slots t).ids := hq
      by_cases ht : t = d
      · subst ht; rw [upd_same] at hq; exact hp.names q hq
      · rw [upd_other _ _ ht] at hq; exact hN q (hs.names t q hq)

/-- Nothing is done: what is asked for by a guard that says no. -/
theorem AtS.skip {s : St} {a : Act} {o : Oper} {next : Nat} (h : AtS glob nt E0 N0 E N s a) (hd : ∀ d, o.dst = some d → d < nt) : AtS glob nt E0 N0 E N ⟨putD o.dst .skip s.slots, s.heap, next⟩ (a.put o.dst undef) := by
  have := h.put (o := o) (next := next) (r := ⟨.skip, s.heap⟩) (N' := N) (v := undef) (E' := E) (by have := Post.same (av := .skip) (v := undef) h.rel.good (fun _ h => h) rfl (by simp [AV.ids]); rw [h.rel.H] at this; exact this) (fun _ h => h) hd
  exact this

theorem asked_ok {ops : Array Oper} {s : St} {a : Act} {o : Oper} (h : RelS glob E N s a) : (asked ops s.slots o = some none → Region.wanted o (yielded ops a.tmps) = true) ∧ ∀ b, asked ops s.slots o = some (some b) → Region.wanted o (yielded ops a.tmps) = b := by
  unfold asked Region.wanted
  cases hg : o.guard with
  | none => exact ⟨fun _ => rfl, fun b hb => by simp at hb⟩
  | some p =>
    obtain ⟨j, want⟩ := p
    simp only
    split
    · exact ⟨(fun h => nomatch h), (fun b h => nomatch h)⟩
    · rename_i d hdst
      have hy : yielded ops a.tmps j = match a.tmps[d]? with | some (.bool b) => some b | _ => none := by
        unfold yielded
        rw [hdst]
        rfl
      have hsl := h.slots d
      split
      · rename_i x hx
        rw [hx] at hsl
        have hv := relV_bool.1 hsl
        refine ⟨fun h => by simp at h, fun b hb => ?_⟩
        simp only [Option.some.injEq] at hb
        subst hb
        have hget : a.tmps[d]? = some (.bool x) := by
          rw [Array.getD_eq_getD_getElem?] at hv
          cases ht : a.tmps[d]? with
          | none => rw [ht] at hv; simp [undef] at hv
          | some u => rw [ht] at hv; simp at hv; rw [hv]
        rw [hy, hget]
        cases x <;> cases want <;> rfl
      · rename_i hx
        rw [hx] at hsl
        have hv : a.tmps.getD d undef = undef := hsl
        refine ⟨fun h => by simp at h, fun b hb => ?_⟩
        simp only [Option.some.injEq] at hb
        subst hb
        rw [hy]
        rw [Array.getD_eq_getD_getElem?] at hv
        cases ht : a.tmps[d]? with
        | none => rfl
        | some u =>
          rw [ht] at hv
          simp at hv
          subst hv
          rfl
      · exact ⟨(fun h => nomatch h), (fun b h => nomatch h)⟩

theorem dst_of {o : Oper} (h : (match o.dst with | some d => decide (d < nt) | none => true) = true) : ∀ d, o.dst = some d → d < nt := by
  intro d hd
  rw [hd] at h
  exact of_decide_eq_true h

/-- One operation of a region. -/
theorem wpOp_ok (hp : PHyp P) {h : Hint} {callF : CallF} (hspec : CallSpec P glob callF) {ops : Array Oper} {i : Nat} {o : Oper} (ho : ops[i]? = some o) {s : St} {a : Act} {m next : Nat} {Q : Exit → Act → World → Prop} {K : Act → World → Prop}
    (hat : AtS glob nt E0 N0 E N s a) (fresh : ∀ i, i < 8 → ¬ N (m + i)) (hd : ∀ d, o.dst = some d → d < nt) :
    (∀ r, (asked ops s.slots o = some none ∨ asked ops s.slots o = some (some true)) → evalOp (mkCx P hint glob) h callF o s m = some r →
      (∀ a' E', AtS glob nt E0 N0 E' (upto N m) ⟨putD o.dst r.v s.slots, r.H, next⟩ a' → (∃ v, a' = a.put o.dst v ∧ Post E N r (upto N m) v E') → K a' E'.w) → wpOp P ops Q i K a E.w) ∧
    (asked ops s.slots o = some (some false) → (AtS glob nt E0 N0 E N ⟨putD o.dst .skip s.slots, s.heap, next⟩ (a.put o.dst undef) → K (a.put o.dst undef) E.w) → wpOp P ops Q i K a E.w) := by
  obtain ⟨w1, w2⟩ := asked_ok (ops := ops) (o := o) hat.rel
  constructor
  · intro r hask he hK
    have hw : Region.wanted o (yielded ops a.tmps) = true := hask.elim w1 (w2 true)
    unfold wpOp
    simp only [ho, hw, if_true]
    left
    refine op_wp hp hspec hat.rel.glob hat.rel.good hat.rel.H (fun x av hx => operand_rel hat.rel hx) fresh he (fun v E' hpost => hK _ E' (hat.put hpost (fun q hq => .inl hq) hd) ⟨v, rfl, hpost⟩)
  · intro hask hK
    have hw := w2 false hask
    unfold wpOp
    simp only [ho, hw, Bool.false_eq_true, if_false]
    exact hK (hat.skip hd)

/-- The operations of a region in the text's order. -/
theorem evalOps_ok (hp : PHyp P) {h : Hint} {callF : CallF} (hspec : CallSpec P glob callF) {ops : Array Oper} {Q : Exit → Act → World → Prop} : ∀ (l : List Oper) (i : Nat) (s s' : St) (a : Act) (w : World), ops.toList.drop i = l →
    evalOps (mkCx P hint glob) h callF nt ops l s = some s' → At glob nt E0 N0 s a w → (∀ a' w', At glob nt E0 N0 s' a' w' → Q .normal a' w') → wpOps P ops Q (List.range' i l.length) a w
  | [], i, s, s', a, w, hl, he, hat, hQ => by
    injection he with he
    subst he
    exact hQ a w hat
  | o :: l, i, s, s', a, w, hl, he, hat, hQ => by
    have ho : ops[i]? = some o := by
      have : (ops.toList.drop i)[0]? = some o := by rw [hl]; rfl
      simpa using this
    have hl' : ops.toList.drop (i + 1) = l := by rw [← List.drop_drop, hl]; rfl
    rw [List.length_cons, List.range'_succ, wpOps_cons]
    obtain ⟨E, N, rfl, hat, hfresh⟩ := hat
    have fresh : ∀ j, j < 8 → ¬ N (s.next + j) := fun j _ => hfresh _ (by omega)
    have fresh' : ∀ q, s.next + 8 ≤ q → ¬ upto N s.next q := fun q hq h => by
      rcases h with h | h
      · exact hfresh q (by omega) h
      · omega
    simp only [evalOps] at he
    split at he
    · cases he
    · cases he
    · rename_i hd hask
      split at he
      · rename_i r hr
        refine (wpOp_ok (h := h) (hint := hint) (next := s.next + 8) hp hspec ho hat fresh (dst_of hd)).1 r (.inl hask) hr (fun a' E' hat' _ => ?_)
        exact evalOps_ok hp hspec l (i + 1) _ s' a' E'.w hl' he ⟨E', _, rfl, hat', fresh'⟩ hQ
      · cases he
    · rename_i b hd hask
      cases b with
      | true =>
        simp only [ite'] at he
        split at he
        · rename_i r hr
          refine (wpOp_ok (h := h) (hint := hint) (next := s.next + 8) hp hspec ho hat fresh (dst_of hd)).1 r (.inr hask) hr (fun a' E' hat' _ => ?_)
          exact evalOps_ok hp hspec l (i + 1) _ s' a' E'.w hl' he ⟨E', _, rfl, hat', fresh'⟩ hQ
        · cases he
      | false =>
        simp only [ite'] at he
        refine (wpOp_ok (h := h) (hint := hint) (next := s.next + 8) hp hspec ho hat fresh (dst_of hd)).2 hask (fun hat' => ?_)
        exact evalOps_ok hp hspec l (i + 1) _ s' _ E.w hl' he ⟨E, N, rfl, hat', fun q hq => hfresh q (Nat.le_trans (Nat.le_add_right _ 8) hq)⟩ hQ
end
end Go.Lite
end

section
/-
  LITE 52: roots that an operation doesn't see.
-/
set_option linter.unusedVariables false
set_option linter.unusedSimpArgs false
namespace Go.Lite
open Go Go.RowKit

mutual
theorem ren_self {f : Nat → Option Nat} : ∀ (a : AV), (∀ q ∈ a.ids, f q = some q) → a.ren f = a
  | .undef, _ => rfl
  | .skip, _ => rfl
  | .data .., _ => rfl
  | .lit .., _ => rfl
  | .nilS _, _ => rfl
  | .nilV _, _ => rfl
  | .at .., _ => rfl
  | .agg l, h => by simp only [AV.ren]; rw [renAll_self l h]
  | .tuple l, h => by simp only [AV.ren]; rw [renAll_self l h]
  | .fn g l, h => by simp only [AV.ren]; rw [renAll_self l h]
  | .iface t u, h => by simp only [AV.ren]; rw [ren_self u h]
  | .ptr r o, h => by simp only [AV.ren]; rw [h r (by simp [AV.ids])]
  | .sl r _ _ _ _, h => by simp only [AV.ren]; rw [h r (by simp [AV.ids])]
  | .el r _ _ _ _, h => by simp only [AV.ren]; rw [h r (by simp [AV.ids])]
  | .mp r, h => by simp only [AV.ren]; rw [h r (by simp [AV.ids])]
  | .it r, h => by simp only [AV.ren]; rw [h r (by simp [AV.ids])]
termination_by structural a => a
theorem renAll_self {f : Nat → Option Nat} : ∀ (l : List AV), (∀ q ∈ idsAll l, f q = some q) → renAll f l = l
  | [], _ => rfl
  | a :: l, h => by
    simp only [renAll]
    rw [ren_self a (fun q hq => h q (by simp [idsAll, hq])), renAll_self l (fun q hq => h q (by simp [idsAll, hq]))]
termination_by structural l => l
end
theorem rootRen_self {f : Nat → Option Nat} (root : Root) (h : ∀ q ∈ root.ids, f q = some q) : root.ren f = root := by
  cases root with
  | box cells => simp only [Root.ren]; rw [renAll_self cells h]
  | _ => rfl

open Classical in
noncomputable def Env.hide (E : Env) (X : Nat → Prop) : Env :=
  { S := E.S, w := E.w, H := fun r => if X r then none else E.H r, G := fun r => if X r then none else E.G r, F := fun b => E.F b ∨ ∃ r gr, X r ∧ E.G r = some gr ∧ b ∈ gr.blocks }

section
variable {P : Program} {hint : Nat → Hint} {glob : Nat → Option Comp} {E : Env} {N X : Nat → Prop}

theorem hide_H {r : Nat} (h : ¬ X r) : (E.hide X).H r = E.H r := by simp only [Env.hide, if_neg h]
theorem hide_G {r : Nat} (h : ¬ X r) : (E.hide X).G r = E.G r := by simp only [Env.hide, if_neg h]
theorem hide_Hx {r : Nat} (h : X r) : (E.hide X).H r = none := by simp only [Env.hide, if_pos h]
theorem hide_Gx {r : Nat} (h : X r) : (E.hide X).G r = none := by simp only [Env.hide, if_pos h]
theorem hide_own {b : Nat} (h : Own (E.hide X).G b) : ∃ r gr, ¬ X r ∧ E.G r = some gr ∧ b ∈ gr.blocks := by
  obtain ⟨r, gr, hgr, hb⟩ := h
  by_cases hX : X r
  · rw [hide_Gx hX] at hgr; cases hgr
  · rw [hide_G hX] at hgr; exact ⟨r, gr, hX, hgr, hb⟩

open Classical in
noncomputable def only (N : Nat → Prop) : Nat → Option Nat := fun r => if N r then some r else none
theorem only_pos {r : Nat} (h : N r) : only N r = some r := by simp only [only, if_pos h]
theorem only_some {r j : Nat} (h : only N r = some j) : j = r ∧ N r := by
  unfold only at h
  split at h
  · rename_i hn; injection h with h; exact ⟨h.symm, hn⟩
  · cases h

/-- What is left when roots are hidden that nothing else speaks of. -/
theorem hide_good (hg : Good E N) (hX : ∀ r root, ¬ X r → E.H r = some root → ∀ q ∈ root.ids, ¬ X q) :
    Good (E.hide X) (fun q => N q ∧ ¬ X q) ∧ ∀ a v, (∀ q ∈ a.ids, N q ∧ ¬ X q) → RelV E a v → RelV (E.hide X) a v := by
  have hRen : Ren E (E.hide X) (only fun q => N q ∧ ¬ X q) := by
    refine ⟨rfl, fun r j h => ?_, fun r j h => ?_⟩
    · obtain ⟨rfl, hn, hx⟩ := only_some h
      rw [hide_H hx]
      cases hr : E.H j with
      | none => rfl
      | some root =>
        show some root = some (root.ren _)
        rw [rootRen_self root (fun q hq => only_pos ⟨(hg.names j root hr).2 q hq, hX j root hx hr q hq⟩)]
    · obtain ⟨rfl, hn, hx⟩ := only_some h
      rw [hide_G hx]
  refine ⟨hRen.good hg (fun r j root _ _ => .inl fun b hb => hb) (fun r r' j h h' => ?_) (fun j => ?_) (fun r j h => ?_) (fun b => ⟨fun hb => ?_, fun hb => ?_⟩) (fun b hb => ?_), fun a v hi hv => ?_⟩
  · rw [← (only_some h).1, ← (only_some h').1]
  · by_cases hj : N j ∧ ¬ X j
    · exact .inl ⟨j, only_pos hj⟩
    · right
      by_cases hx : X j
      · exact ⟨hide_Hx hx, hide_Gx hx⟩
      · have hn : ¬ N j := fun h => hj ⟨h, hx⟩
        have h0 : E.H j = none := by
          cases hr : E.H j with
          | none => rfl
          | some root => exact absurd (hg.names j root hr).1 hn
        exact ⟨by rw [hide_H hx]; exact h0, by rw [hide_G hx]; exact hg.none j h0⟩
  · obtain ⟨rfl, h⟩ := only_some h; exact h
  · obtain ⟨h1, h2, h3⟩ := (hg.S b).1 hb
    refine ⟨h1, fun ho => ?_, fun hf => ?_⟩
    · obtain ⟨r, gr, _, hgr, hbb⟩ := hide_own ho; exact h2 ⟨r, gr, hgr, hbb⟩
    · rcases hf with hf | ⟨r, gr, _, hgr, hbb⟩
      · exact h3 hf
      · exact h2 ⟨r, gr, hgr, hbb⟩
  · obtain ⟨h1, h2, h3⟩ := hb
    refine (hg.S b).2 ⟨h1, fun ho => ?_, fun hf => h3 (.inl hf)⟩
    obtain ⟨r, gr, hgr, hbb⟩ := ho
    by_cases hx : X r
    · exact h3 (.inr ⟨r, gr, hx, hgr, hbb⟩)
    · exact h2 ⟨r, gr, by rw [hide_G hx]; exact hgr, hbb⟩
  · rcases hb with hf | ⟨r, gr, hx, hgr, hbb⟩
    · obtain ⟨f1, f2⟩ := hg.F b hf
      exact ⟨f1, fun ho => by obtain ⟨r, gr, _, hgr, hbb⟩ := hide_own ho; exact f2 ⟨r, gr, hgr, hbb⟩⟩
    · exact ⟨hg.lt b ⟨r, gr, hgr, hbb⟩, fun ho => by
        obtain ⟨r', gr', hx', hgr', hbb'⟩ := hide_own ho
        exact hg.apart r r' gr gr' (fun e => hx' (e ▸ hx)) hgr hgr' b hbb hbb'⟩
  · have := RelV.ren hRen a v (.inl fun b hb => hb) hv
    rwa [ren_self a (fun q hq => only_pos (hi q hq))] at this

open Classical in
/-- What an operation has done that didn't see some roots, with these. -/
theorem unhide {m : Nat} {r : Res} {v : Value} {E' : Env} (hg : Good E N) (hXN : ∀ q, X q → N q) (fresh : ∀ i, i < 8 → ¬ N (m + i)) (hp : Post (E.hide X) (fun q => N q ∧ ¬ X q) r (upto (fun q => N q ∧ ¬ X q) m) v E') :
    ∃ E3, E3.w = E'.w ∧ Post E N ⟨r.v, fun q => if X q then E.H q else r.H q⟩ (upto N m) v E3 := by
  have hnX : ∀ q, upto (fun q => N q ∧ ¬ X q) m q → ¬ X q := by
    rintro q (h | h) hx
    · exact h.2 hx
    · exact fresh (q - m) (by omega) (by rw [show m + (q - m) = q by omega]; exact hXN q hx)
  have hup : ∀ q, upto (fun q => N q ∧ ¬ X q) m q → upto N m q := fun q h => h.imp (fun h => h.1) id
  let G3 : Nat → Option GRoot := fun q => if X q then E.G q else E'.G q
  let H3 : Heap := fun q => if X q then E.H q else E'.H q
  let E3 : Env := { S := fun b => b < E'.w.heap.size ∧ ¬ Own G3 b ∧ ¬ E.F b, w := E'.w, H := H3, G := G3, F := E.F }
  have hF : E'.F = (E.hide X).F := hp.F
  have own3 : ∀ b, Own G3 b → Own E'.G b ∨ ∃ r gr, X r ∧ E.G r = some gr ∧ b ∈ gr.blocks := by
    rintro b ⟨q, gr, hgr, hb⟩
    simp only [G3] at hgr
    split at hgr
    · rename_i hx; exact .inr ⟨q, gr, hx, hgr, hb⟩
    · exact .inl ⟨q, gr, hgr, hb⟩
  have ownE : ∀ b, Own E'.G b → b < E.w.heap.size → ∃ r gr, ¬ X r ∧ E.G r = some gr ∧ b ∈ gr.blocks := fun b h hlt => hide_own (hp.own b h hlt)
  have xF : ∀ b, (∃ r gr, X r ∧ E.G r = some gr ∧ b ∈ gr.blocks) → (E.hide X).F b := fun b h => .inr h
  have hsz : E.w.heap.size ≤ E'.w.heap.size := hp.tr.size
  have hSS : ∀ b, E'.S b → E3.S b := by
    intro b hb
    obtain ⟨h1, h2, h3⟩ := (hp.good.S b).1 hb
    rw [hF] at h3
    refine ⟨h1, fun ho => ?_, fun hf => h3 (.inl hf)⟩
    rcases own3 b ho with ho | ho
    · exact h2 ho
    · exact h3 (xF b ho)
  have hRen : Ren E' E3 (only (upto (fun q => N q ∧ ¬ X q) m)) := by
    refine ⟨rfl, fun q j h => ?_, fun q j h => ?_⟩
    · obtain ⟨rfl, hn⟩ := only_some h
      show H3 j = _
      simp only [H3, if_neg (hnX j hn)]
      cases hr : E'.H j with
      | none => rfl
      | some root =>
        show some root = some (root.ren _)
        rw [rootRen_self root (fun q hq => only_pos ((hp.good.names j root hr).2 q hq))]
    · obtain ⟨rfl, hn⟩ := only_some h
      show G3 j = _
      simp only [G3, if_neg (hnX j hn)]
  have tr_out : ∀ r gr b, X r → E.G r = some gr → b ∈ gr.blocks → E'.w.heap[b]? = E.w.heap[b]? := by
    intro r gr b hx hgr hb
    refine hp.tr.keep b (hg.lt b ⟨r, gr, hgr, hb⟩) (fun ho => ?_)
    obtain ⟨r', gr', hx', hgr', hb'⟩ := hide_own ho
    exact hg.apart r r' gr gr' (fun e => hx' (e ▸ hx)) hgr hgr' b hb hb'
  have hext : Ext N E E3 := by
    refine ⟨fun b hb => ?_, fun r hr => ?_⟩
    · obtain ⟨h1, h2⟩ := hp.ext.stay b hb
      exact ⟨hSS b h1, h2⟩
    · show ExtR (E.H r) (H3 r) (E.G r) (G3 r)
      by_cases hx : X r
      · simp only [H3, G3, if_pos hx]
        exact ExtR.refl _ _ (fun fl k xs ver hole hr => by
          obtain ⟨A, c, els, hG, _⟩ := hg.arr r fl k xs ver hole hr
          exact ⟨_, hG, rfl⟩)
      · have := hp.ext.roots r ⟨hr, hx⟩
        rw [hide_H hx, hide_G hx] at this
        simp only [H3, G3, if_neg hx]
        exact this
  have hgood : Good E3 (upto N m) := by
    refine ⟨fun b => Iff.rfl, fun q root hq => ?_, fun q hq => ?_, fun b hbo => ?_, fun q q' gr gr' hne h1 h2 b hb hb' => ?_, fun q gr hgr => ?_, fun q root hq => ?_, fun b hf => ?_⟩
    · have hq : H3 q = some root := hq
      by_cases hx : X q
      · simp only [H3, if_pos hx] at hq
        obtain ⟨gr, hgr, hrel⟩ := hg.roots q root hq
        exact ⟨gr, by show G3 q = _; simp only [G3, if_pos hx]; exact hgr, hrel.keep hext (hg.names q root hq).2 (fun b hb => tr_out q gr b hx hgr hb)⟩
      · simp only [H3, if_neg hx] at hq
        obtain ⟨gr, hgr, hrel⟩ := hp.good.roots q root hq
        have := hrel.ren hRen (.inl hSS)
        rw [rootRen_self root (fun q' hq' => only_pos ((hp.good.names q root hq).2 q' hq'))] at this
        exact ⟨gr, by show G3 q = _; simp only [G3, if_neg hx]; exact hgr, this⟩
    · have hq : H3 q = none := hq
      show G3 q = none
      by_cases hx : X q
      · simp only [H3, if_pos hx] at hq
        simp only [G3, if_pos hx]
        exact hg.none q hq
      · simp only [H3, if_neg hx] at hq
        simp only [G3, if_neg hx]
        exact hp.good.none q hq
    · rcases own3 b hbo with ho | ⟨r, gr, _, a, c⟩
      · exact hp.good.lt b ho
      · exact Nat.lt_of_lt_of_le (hg.lt b ⟨r, gr, a, c⟩) hsz
    · have h1 : G3 q = some gr := h1
      have h2 : G3 q' = some gr' := h2
      by_cases hx : X q
      · simp only [G3, if_pos hx] at h1
        by_cases hx' : X q'
        · simp only [G3, if_pos hx'] at h2
          exact hg.apart q q' gr gr' hne h1 h2 b hb hb'
        · simp only [G3, if_neg hx'] at h2
          obtain ⟨r, g, hxr, hgr, hbr⟩ := ownE b ⟨q', gr', h2, hb'⟩ (hg.lt b ⟨q, gr, h1, hb⟩)
          exact hg.apart q r gr g (fun e => hxr (e ▸ hx)) h1 hgr b hb hbr
      · simp only [G3, if_neg hx] at h1
        by_cases hx' : X q'
        · simp only [G3, if_pos hx'] at h2
          obtain ⟨r, g, hxr, hgr, hbr⟩ := ownE b ⟨q, gr, h1, hb⟩ (hg.lt b ⟨q', gr', h2, hb'⟩)
          exact hg.apart q' r gr' g (fun e => hxr (e ▸ hx')) h2 hgr b hb' hbr
        · simp only [G3, if_neg hx'] at h2
          exact hp.good.apart q q' gr gr' hne h1 h2 b hb hb'
    · have hgr : G3 q = some gr := hgr
      by_cases hx : X q
      · simp only [G3, if_pos hx] at hgr; exact hg.nodup q gr hgr
      · simp only [G3, if_neg hx] at hgr; exact hp.good.nodup q gr hgr
    · have hq : H3 q = some root := hq
      by_cases hx : X q
      · simp only [H3, if_pos hx] at hq
        obtain ⟨a, c⟩ := hg.names q root hq
        exact ⟨.inl a, fun q' hq' => .inl (c q' hq')⟩
      · simp only [H3, if_neg hx] at hq
        obtain ⟨a, c⟩ := hp.good.names q root hq
        exact ⟨hup _ a, fun q' hq' => hup _ (c q' hq')⟩
    · obtain ⟨f1, f2⟩ := hg.F b hf
      refine ⟨Nat.lt_of_lt_of_le f1 hsz, fun ho => ?_⟩
      rcases own3 b ho with ho | ⟨r, gr, _, a, c⟩
      · obtain ⟨r, gr, _, a, c⟩ := ownE b ho f1; exact f2 ⟨r, gr, a, c⟩
      · exact f2 ⟨r, gr, a, c⟩
  refine ⟨E3, rfl, by show H3 = _; simp only [H3, hp.H], hgood, hext, ?_, fun q hq => hup _ (hp.names q hq), ⟨hp.tr.size, hp.tr.os, hp.tr.tape, hp.tr.output, fun b hlt hno => ?_⟩, fun b ho hlt => ?_, rfl⟩
  · have := RelV.ren hRen r.v v (.inl hSS) hp.rel
    rwa [ren_self r.v (fun q hq => only_pos (hp.names q hq))] at this
  · exact hp.tr.keep b hlt (fun ho => by obtain ⟨r, gr, _, a, c⟩ := hide_own ho; exact hno ⟨r, gr, a, c⟩)
  · rcases own3 b ho with ho | ⟨r, gr, _, a, c⟩
    · obtain ⟨r, gr, _, a, c⟩ := ownE b ho hlt; exact ⟨r, gr, a, c⟩
    · exact ⟨r, gr, a, c⟩
end
end Go.Lite
end

section
/-
  LITE 53: operations by what they have to do with the heap.
-/
set_option linter.unusedVariables false
set_option linter.unusedSimpArgs false
namespace Go.Lite
open Go Go.RowKit

theorem listSame_eq {α : Type} {f : α → α → Bool} (h : ∀ a b, f a b = true → a = b) : ∀ (l m : List α), listSame f l m = true → l = m
  | [], [], _ => rfl
  | a :: l, b :: m, e => by
    simp only [listSame, Bool.and_eq_true] at e
    rw [h a b e.1, listSame_eq h l m e.2]
  | [], _ :: _, e => by cases e
  | _ :: _, [], e => by cases e
theorem K.same_eq (k : K) : ∀ (x y : k.D), k.same x y = true → x = y := by
  induction k with
  | int _ => intro x y h; exact eq_of_beq (α := Int) h
  | bool => intro x y h; exact eq_of_beq (α := Bool) h
  | str =>
    intro x y h
    have h : (ByteArray.toList x == ByteArray.toList y) = true := h
    have h := eq_of_beq h
    exact ByteArray.ext (Array.toList_inj.1 ((Go.ByteArray.toList_eq x).symm.trans (h.trans (Go.ByteArray.toList_eq y))))
  | unit => intro x y h; rfl
  | slice k ih => intro x y h; exact listSame_eq ih x y h
  | array n k ih => intro x y h; exact listSame_eq ih x y h
  | pair a b iha ihb =>
    intro x y h
    have h : (a.same x.1 y.1 && b.same x.2 y.2) = true := h
    simp only [Bool.and_eq_true] at h
    exact Prod.ext (iha _ _ h.1) (ihb _ _ h.2)
theorem K.same?_eq {k k' : K} {d : k.D} {d' : k'.D} (h : K.same? k k' d d' = true) : ∃ e : k' = k, d = e ▸ d' := by
  unfold K.same? at h
  split at h
  · rename_i x hx
    obtain ⟨e, rfl⟩ := cast_some hx
    subst e
    exact ⟨rfl, K.same_eq k' _ _ h⟩
  · cases h
mutual
theorem same_eq : ∀ (a b : AV), a.same b = true → a = b
  | .data k d, b, h => by
    cases b with
    | data k' d' => obtain ⟨e, h⟩ := K.same?_eq h; subst e; rw [h]
    | _ => cases h
  | .lit k d, b, h => by
    cases b with
    | lit k' d' => obtain ⟨e, h⟩ := K.same?_eq h; injection e with e; subst e; rw [h]
    | _ => cases h
  | .at k d, b, h => by
    cases b with
    | «at» k' d' => obtain ⟨e, h⟩ := K.same?_eq h; subst e; rw [h]
    | _ => cases h
  | .nilS t, b, h => by
    cases b with
    | nilS t' => have h : (t == t') = true := h; rw [eq_of_beq h]
    | _ => cases h
  | .nilV v, b, h => by
    cases b with
    | nilV v' =>
      unfold AV.same at h
      split at h <;> simp_all
    | _ => unfold AV.same at h; split at h <;> simp_all
  | .ptr r o, b, h => by
    cases b with
    | ptr r' o' => have h : (r == r' && o == o') = true := h; simp only [Bool.and_eq_true, beq_iff_eq] at h; rw [h.1, h.2]
    | _ => cases h
  | .sl r ver p off len, b, h => by
    cases b with
    | sl r' ver' p' off' len' =>
      have h : (r == r' && ver == ver' && p == p' && off == off' && len == len') = true := h
      simp only [Bool.and_eq_true, beq_iff_eq] at h
      obtain ⟨⟨⟨⟨h1, h2⟩, h3⟩, h4⟩, h5⟩ := h
      rw [h1, h2, h3, h4, h5]
    | _ => cases h
  | .el r ver p i fs, b, h => by
    cases b with
    | el r' ver' p' i' fs' =>
      have h : (r == r' && ver == ver' && p == p' && i == i' && fs == fs') = true := h
      simp only [Bool.and_eq_true, beq_iff_eq] at h
      obtain ⟨⟨⟨⟨h1, h2⟩, h3⟩, h4⟩, h5⟩ := h
      rw [h1, h2, h3, h4, h5]
    | _ => cases h
  | .mp r, b, h => by
    cases b with
    | mp r' => have h : (r == r') = true := h; rw [eq_of_beq h]
    | _ => cases h
  | .fn f l, b, h => by
    cases b with
    | fn f' l' => have h : (f == f' && sameAll l l') = true := h; simp only [Bool.and_eq_true, beq_iff_eq] at h; rw [h.1, sameAll_eq l l' h.2]
    | _ => cases h
  | .agg l, b, h => by
    cases b with
    | agg l' => rw [sameAll_eq l l' h]
    | _ => cases h
  | .undef, b, h => by cases b <;> cases h
  | .skip, b, h => by cases b <;> cases h
  | .tuple _, b, h => by cases b <;> cases h
  | .it _, b, h => by cases b <;> cases h
  | .iface _ _, b, h => by cases b <;> cases h
termination_by structural a => a
theorem sameAll_eq : ∀ (l m : List AV), sameAll l m = true → l = m
  | [], [], _ => rfl
  | a :: l, b :: m, h => by
    have h : (a.same b && sameAll l m) = true := h
    simp only [Bool.and_eq_true] at h
    rw [same_eq a b h.1, sameAll_eq l m h.2]
  | [], _ :: _, h => by cases h
  | _ :: _, [], h => by cases h
termination_by structural l => l
end

section
variable {cx : Cx} {H K : Heap}
theorem rowKind_congr {r : Nat} {p : List Step} (h : H r = K r) : rowKind H r p = rowKind K r p := by unfold rowKind; rw [h]
theorem verOf_congr {r ver : Nat} (h : H r = K r) : verOf H r ver = verOf K r ver := by unfold verOf; rw [h]
theorem content_local {v : AV} (h : ∀ q ∈ v.ids, H q = K q) : content cx H v = content cx K v := by
  cases v with
  | sl r ver p off len => simp only [content, view_congr (ver := ver) (p := p) (h r (by simp [AV.ids]))]
  | data k d => cases k <;> rfl
  | _ => rfl
theorem lend_local {v : AV} (h : ∀ q ∈ v.ids, H q = K q) : v.lend cx H = v.lend cx K := by
  cases v with
  | sl r ver p off len => simp only [AV.lend, content_local h]
  | _ => rfl
theorem lendAll_local : ∀ {l : List AV}, (∀ q ∈ idsAll l, H q = K q) → l.map (AV.lend cx H) = l.map (AV.lend cx K)
  | [], _ => rfl
  | a :: l, h => by
    rw [List.map_cons, List.map_cons, lend_local (fun q hq => h q (by simp [idsAll, hq])), lendAll_local (fun q hq => h q (by simp [idsAll, hq]))]
theorem asData_local {k : Lite.K} {v : AV} (h : ∀ q ∈ v.ids, H q = K q) : asData cx H k v = asData cx K k v := by
  cases v with
  | data k d => rfl
  | agg l => simp only [asData, lendAll_local (cx := cx) h]
  | _ => simp only [asData, lend_local (cx := cx) h]
theorem fieldAddr_local {t : TypeId} {x : AV} {f : Nat} (h : ∀ q ∈ x.ids, H q = K q) : fieldAddr cx H t x f = fieldAddr cx K t x f := by
  cases x with
  | el r ver p i fs => simp only [fieldAddr, rowKind_congr (p := p) (h r (by simp [AV.ids]))]
  | _ => rfl
theorem load_local {t : TypeId} {x : AV} (h : ∀ q ∈ x.ids, H q = K q) : load cx H t x = load cx K t x := by
  cases x with
  | ptr r off => simp only [load, h r (by simp [AV.ids])]
  | el r ver p i fs => simp only [load, view_congr (ver := ver) (p := p) (h r (by simp [AV.ids])), verOf_congr (ver := ver) (h r (by simp [AV.ids]))]
  | _ => rfl
theorem indexAddr_local {t : TypeId} {x i : AV} (h : ∀ q ∈ x.ids, H q = K q) : indexAddr cx H t x i = indexAddr cx K t x i := by
  unfold indexAddr
  cases asInt i with
  | none => cases x with
    | data k d => cases k <;> rfl
    | «at» k d => cases k <;> rfl
    | _ => rfl
  | some j => cases x with
    | sl r ver p off len => simp only [h r (by simp [AV.ids]), rowKind_congr (p := p) (h r (by simp [AV.ids]))]
    | data k d => cases k <;> rfl
    | «at» k d => cases k <;> rfl
    | _ => rfl
theorem cut_local {t : TypeId} {x : AV} {lo hi mx : Option AV} (h : ∀ q ∈ x.ids, H q = K q) : cut cx H t x lo hi mx = cut cx K t x lo hi mx := by
  cases x with
  | sl r ver p off len => simp only [cut, view_congr (ver := ver) (p := p) (h r (by simp [AV.ids]))]
  | data k d => cases k <;> rfl
  | _ => rfl
theorem convert_local {s d : TypeId} {x : AV} (h : ∀ q ∈ x.ids, H q = K q) : convert cx H s d x = convert cx K s d x := by
  unfold convert
  rw [content_local h]
theorem lookup_local {t : TypeId} {m key : AV} {ok : Bool} (h : ∀ q ∈ m.ids, H q = K q) (h' : ∀ q ∈ key.ids, H q = K q) : lookup cx H t m key ok = lookup cx K t m key ok := by
  cases m with
  | mp r =>
    have e : ∀ k, asData cx H k key = asData cx K k key := fun k => asData_local h'
    simp only [lookup, h r (by simp [AV.ids]), e]
  | _ => rfl
theorem lenOf_local {t : TypeId} {x : AV} (h : ∀ q ∈ x.ids, H q = K q) : lenOf cx H t x = lenOf cx K t x := by
  cases x with
  | mp r => simp only [lenOf, h r (by simp [AV.ids])]
  | data k d => cases k <;> rfl
  | nilV v => cases v with
    | map m => cases m <;> rfl
    | _ => rfl
  | _ => rfl
end
end Go.Lite
end

section
/-
  LITE 54: what an operation answers on another heap.
-/
set_option linter.unusedVariables false
set_option linter.unusedSimpArgs false
namespace Go.Lite
open Go Go.RowKit

section
variable {cx : Cx} {h : Hint} {callF : CallF} {o : Oper} {sl : Slots} {H : Heap} {nx m : Nat} {r : Res}

theorem valO {v : Option AV} {H : Heap} : (match v with | some v => some (⟨v, H⟩ : Res) | none => none) = v.map (⟨·, H⟩) := by cases v <;> rfl

/-- It doesn't look at the heap, and leaves it. -/
theorem pure_ok (hc : clsOp cx h sl o = .pure) (he : evalOp cx h callF o ⟨sl, H, nx⟩ m = some r) : r.H = H ∧ ∀ K nx', evalOp cx h callF o ⟨sl, K, nx'⟩ m = some ⟨r.v, K⟩ := by
  have done : ∀ (f : Heap → Option Res) (x : Option AV), (∀ K, f K = x.map (⟨·, K⟩)) → f H = some r → r.H = H ∧ ∀ K, f K = some ⟨r.v, K⟩ := by
    intro f x hf hr
    rw [hf] at hr
    obtain ⟨v, rfl, rfl⟩ := map_some hr
    exact ⟨rfl, fun K => by rw [hf]; rfl⟩
  have fin : ∀ (x : Option AV), (∀ K nx', evalOp cx h callF o ⟨sl, K, nx'⟩ m = x.map (⟨·, K⟩)) → r.H = H ∧ ∀ K nx', evalOp cx h callF o ⟨sl, K, nx'⟩ m = some ⟨r.v, K⟩ := by
    intro x hf
    obtain ⟨h1, h2⟩ := done (fun K => evalOp cx h callF o ⟨sl, K, nx⟩ m) x (fun K => hf K nx) he
    exact ⟨h1, fun K nx' => by rw [hf]; rw [← hf K nx]; exact h2 K⟩
  have mv : ∀ x, (o.op = .move x ∨ o.op = .assign x) → r.H = H ∧ ∀ K nx', evalOp cx h callF o ⟨sl, K, nx'⟩ m = some ⟨r.v, K⟩ := by
    intro x hop
    have e : ∀ K nx', evalOp cx h callF o ⟨sl, K, nx'⟩ m = match operand cx sl x with
        | some (.nilS 0) => match (match (cx.ty o.type).map Ty.td with | some (.slice _) => true | _ => false) with
          | true => (match nilOf cx h K o.type m with | some (v, H) => some ⟨v, H⟩ | none => none)
          | false => some ⟨.nilS 0, K⟩
        | some v => some ⟨v, K⟩
        | none => none := by
      intro K nx'
      rcases hop with hop | hop <;> (unfold evalOp; simp only [hop]; rfl)
    have hcl : clsOp cx h sl o = match operand cx sl x with
        | some (.nilS 0) => match growFl h o.type with | none => .pure | some _ => .make
        | _ => .pure := by
      rcases hop with hop | hop <;> (unfold clsOp; simp only [hop]; rfl)
    rw [hcl] at hc
    split at hc
    · rename_i hx
      split at hc
      · rename_i hgr
        refine fin (some (match (match (cx.ty o.type).map Ty.td with | some (.slice _) => true | _ => false) with | true => .nilS o.type | false => .nilS 0)) (fun K nx' => ?_)
        rw [e, hx]
        simp only
        split
        · simp only [nilOf, hgr]; rfl
        · rfl
      · cases hc
    · rename_i hx
      refine fin (operand cx sl x) (fun K nx' => ?_)
      rw [e]
      cases hv : operand cx sl x with
      | none => rfl
      | some v =>
        split
        · rename_i hv'
          injection hv' with hv'
          subst hv'
          exact absurd hv hx
        · rename_i hv'; injection hv' with hv'; subst hv'; rfl
        · rename_i hv'; cases hv'
  cases hop : o.op with
  | move x => exact mv x (.inl hop)
  | assign x => exact mv x (.inr hop)
  | pick c a b =>
    refine fin (match operand cx sl c with | some (.data .bool c) => ite' c (fun _ => operand cx sl a) (fun _ => operand cx sl b) | _ => none) (fun K nx' => ?_)
    unfold evalOp
    simp only [hop]
    split
    · rename_i c' hc'
      rw [hc']
      cases c' <;> exact valO
    · rename_i hne
      split
      · rename_i hc'; exact absurd hc' (hne _)
      · rfl
  | unOp op t x =>
    refine fin ((operand cx sl x).bind (unOp op)) (fun K nx' => ?_)
    unfold evalOp
    simp only [hop]
    cases operand cx sl x with
    | none => rfl
    | some v => exact valO
  | binOp op t x y z =>
    refine fin ((operand cx sl x).bind fun a => (operand cx sl y).bind fun b => binOp cx op t a b) (fun K nx' => ?_)
    unfold evalOp
    simp only [hop]
    cases operand cx sl x with
    | none => rfl
    | some v =>
      cases operand cx sl y with
      | none => rfl
      | some u => exact valO
  | extract x i =>
    refine fin ((operand cx sl x).bind fun v => match v with | .tuple l => get? l i | _ => none) (fun K nx' => ?_)
    unfold evalOp
    simp only [hop]
    cases operand cx sl x with
    | none => rfl
    | some v => cases v <;> first | rfl | exact valO
  | nilCheck x =>
    refine fin ((operand cx sl x).bind fun v => match v with | .ptr r o => some (.ptr r o) | .at k d => some (.at k d) | .el r ver p i fs => some (.el r ver p i fs) | .fn f caps => some (.fn f caps) | .iface t v => some (.iface t v) | _ => none) (fun K nx' => ?_)
    unfold evalOp
    simp only [hop]
    cases operand cx sl x with
    | none => rfl
    | some v => cases v <;> rfl
  | field t x f =>
    refine fin ((operand cx sl x).bind fun a => field cx t a f) (fun K nx' => ?_)
    unfold evalOp
    simp only [hop]
    cases operand cx sl x with
    | none => rfl
    | some v => exact valO
  | build t ps =>
    refine fin ((mapAll (fun p => (operand cx sl p.2).map (p.1, ·)) ps.toList).bind fun ps => build cx t ps) (fun K nx' => ?_)
    unfold evalOp
    simp only [hop]
    cases mapAll (fun p => (operand cx sl p.2).map (p.1, ·)) ps.toList with
    | none => rfl
    | some v => exact valO
  | index t x i =>
    refine fin ((operand cx sl x).bind fun a => (operand cx sl i).bind fun b => index cx t a b) (fun K nx' => ?_)
    unfold evalOp
    simp only [hop]
    cases operand cx sl x with
    | none => rfl
    | some v =>
      cases operand cx sl i with
      | none => rfl
      | some u => exact valO
  | makeInterface t x =>
    refine fin ((operand cx sl x).bind fun v => match tdAt cx t with | some .iface => none | some _ => some (.iface t v) | none => none) (fun K nx' => ?_)
    unfold evalOp
    simp only [hop]
    cases operand cx sl x with
    | none => cases tdAt cx t with
      | none => rfl
      | some d => cases d <;> rfl
    | some v => cases tdAt cx t with
      | none => rfl
      | some d => cases d <;> rfl
  | makeFunc fn first caps =>
    cases fn with
    | func f =>
      refine fin ((mapAll (operand cx sl) caps.toList).bind fun caps => match first.toList with | [] => some (.fn f caps) | _ => none) (fun K nx' => ?_)
      unfold evalOp
      simp only [hop]
      cases mapAll (operand cx sl) caps.toList with
      | none => cases first.toList <;> rfl
      | some v => cases first.toList <;> rfl
    | _ => unfold evalOp at he; simp only [hop] at he; cases he
  | buildSlice t len ps => unfold clsOp at hc; simp only [hop] at hc; split at hc <;> cases hc
  | call c =>
    unfold clsOp at hc
    simp only [hop] at hc
    split at hc <;> first | cases hc; done | simp_all
  | _ => unfold clsOp at hc; simp only [hop] at hc; cases hc
end
end Go.Lite
end

section
/-
  LITE 55: makers and readers.
-/
set_option linter.unusedVariables false
set_option linter.unusedSimpArgs false
namespace Go.Lite
open Go Go.RowKit

def setO (m : Nat) (X : Option Root) (H : Heap) : Heap := match X with
  | none => H
  | some x => upd m (some x) H

section
variable {cx : Cx} {h : Hint} {callF : CallF} {o : Oper} {sl : Slots} {H : Heap} {nx m : Nat} {r : Res}

theorem absorb_none {fl : Fl} {k : K} {v : AV} {d : k.D} {H' : Heap} (hi : v.ids = []) (h : absorb cx H fl k v = some (d, H')) : H' = H ∧ ∀ H2, absorb cx H2 fl k v = some (d, H2) := by
  unfold absorb at h
  split at h
  · simp [AV.ids] at hi
  · simp only [Option.some.injEq, Prod.mk.injEq] at h
    obtain ⟨rfl, rfl⟩ := h
    exact ⟨rfl, fun _ => rfl⟩
  · split at h
    · rename_i d' hd
      simp only [Option.some.injEq, Prod.mk.injEq] at h
      obtain ⟨rfl, h⟩ := h
      have hl : ∀ H2, asData cx H2 k v = some d' := fun H2 => by rw [← hd]; exact asData_local (fun q hq => by rw [hi] at hq; cases hq)
      cases hk : k.flatRows with
      | true =>
        simp only [hk] at h
        exact ⟨h.symm, fun H2 => by unfold absorb; simp only [hl, hk]⟩
      | false =>
        simp only [hk, hi] at h
        exact ⟨h.symm, fun H2 => by unfold absorb; simp only [hl, hk, hi]; rfl⟩
    · cases h
  · cases h
theorem absorbAll_none {fl : Fl} {k : K} : ∀ {vs : List AV} {ds : List k.D} {H H' : Heap}, (∀ v ∈ vs, v.ids = []) → absorbAll cx fl k H vs = some (ds, H') → H' = H ∧ ∀ H2, absorbAll cx fl k H2 vs = some (ds, H2)
  | [], ds, H, H', _, h => by
    simp only [absorbAll, Option.some.injEq, Prod.mk.injEq] at h
    obtain ⟨rfl, rfl⟩ := h
    exact ⟨rfl, fun _ => rfl⟩
  | v :: vs, ds, H, H', hi, h => by
    simp only [absorbAll] at h
    split at h
    · rename_i d H1 hd
      split at h
      · rename_i ds' H2 hds
        simp only [Option.some.injEq, Prod.mk.injEq] at h
        obtain ⟨rfl, rfl⟩ := h
        obtain ⟨rfl, e1⟩ := absorb_none (hi v (by simp)) hd
        obtain ⟨rfl, e2⟩ := absorbAll_none (fun v hv => hi v (by simp [hv])) hds
        exact ⟨rfl, fun H2 => by simp only [absorbAll, e1, e2]⟩
      · cases h
    · cases h

/-- It makes a root, or none, whatever the heap is. -/
theorem make_ok (hc : clsOp cx h sl o = .make) (he : evalOp cx h callF o ⟨sl, H, nx⟩ m = some r) : ∃ X, r.H = setO m X H ∧ ∀ K nx', evalOp cx h callF o ⟨sl, K, nx'⟩ m = some ⟨r.v, setO m X K⟩ := by
  have fin : ∀ (v : AV) (X : Option Root), (∀ K nx', evalOp cx h callF o ⟨sl, K, nx'⟩ m = some ⟨v, setO m X K⟩) → ∃ X, r.H = setO m X H ∧ ∀ K nx', evalOp cx h callF o ⟨sl, K, nx'⟩ m = some ⟨r.v, setO m X K⟩ := by
    intro v X hf
    rw [hf] at he
    injection he with he
    subst he
    exact ⟨X, rfl, hf⟩
  have mv : ∀ x, (o.op = .move x ∨ o.op = .assign x) → ∃ X, r.H = setO m X H ∧ ∀ K nx', evalOp cx h callF o ⟨sl, K, nx'⟩ m = some ⟨r.v, setO m X K⟩ := by
    intro x hop
    have e : ∀ K nx', evalOp cx h callF o ⟨sl, K, nx'⟩ m = match operand cx sl x with
        | some (.nilS 0) => match (match (cx.ty o.type).map Ty.td with | some (.slice _) => true | _ => false) with
          | true => (match nilOf cx h K o.type m with | some (v, H) => some ⟨v, H⟩ | none => none)
          | false => some ⟨.nilS 0, K⟩
        | some v => some ⟨v, K⟩
        | none => none := by
      intro K nx'
      rcases hop with hop | hop <;> (unfold evalOp; simp only [hop]; rfl)
    have hcl : clsOp cx h sl o = match operand cx sl x with
        | some (.nilS 0) => match growFl h o.type with | none => .pure | some _ => .make
        | _ => .pure := by
      rcases hop with hop | hop <;> (unfold clsOp; simp only [hop]; rfl)
    rw [hcl] at hc
    split at hc
    · rename_i hx
      split at hc
      · cases hc
      · rename_i fl hgr
        rw [e, hx] at he
        simp only at he
        split at he
        · rename_i hty
          simp only [nilOf, hgr] at he
          split at he
          · rename_i u H2 hu
            split at hu
            · rename_i e1 i k hek
              simp only [Option.some.injEq, Prod.mk.injEq] at hu
              obtain ⟨rfl, rfl⟩ := hu
              refine fin (.sl m 0 [] 0 0) (some (.arr fl k [] 0 none)) (fun K nx' => ?_)
              rw [e, hx]
              simp only [hty, nilOf, hgr, hek]
              rfl
            · cases hu
          · cases he
        · rename_i hty
          refine fin (.nilS 0) none (fun K nx' => ?_)
          rw [e, hx]
          simp only [hty]
          rfl
    · cases hc
  cases hop : o.op with
  | move x => exact mv x (.inl hop)
  | assign x => exact mv x (.inr hop)
  | alloc t =>
    unfold evalOp at he
    simp only [hop] at he
    split at he
    · rename_i cs hz
      refine fin (.ptr m 0) (some (.box cs)) (fun K nx' => ?_)
      unfold evalOp
      simp only [hop, hz]
      rfl
    · cases he
  | box t x =>
    unfold evalOp at he
    simp only [hop] at he
    split at he
    · rename_i x' hx
      split at he
      · rename_i cs hcs
        refine fin (.ptr m 0) (some (.box cs)) (fun K nx' => ?_)
        unfold evalOp
        simp only [hop, hx, hcs]
        rfl
      · cases he
    · cases he
  | makeSlice t n c =>
    unfold evalOp at he
    simp only [hop] at he
    split at he
    · rename_i n' c' hn hc'
      obtain ⟨v, H2, hv, rfl⟩ := mkO_some he
      unfold makeSlice at hv
      split at hv
      · rename_i e1 i k k1 n2 k2 c2 hek
        obtain ⟨hb, hv⟩ := chk_some hv
        simp only [Option.some.injEq, Prod.mk.injEq] at hv
        obtain ⟨rfl, rfl⟩ := hv
        refine fin (.sl m 0 [] 0 n2) (some (.arr .no k (List.replicate (Int.toNat n2) k.zero) 0 none)) (fun K nx' => ?_)
        unfold evalOp
        simp only [hop, hn, hc', makeSlice, hek, hb]
        rfl
      · cases hv
    · cases he
  | buildSlice t len ps =>
    have hids : operIds cx sl o = [] := by
      unfold clsOp at hc
      simp only [hop] at hc
      split at hc
      · assumption
      · cases hc
    have hnone : ∀ avs, mapAll (fun p => (operand cx sl p.2).map (p.1, ·)) ps.toList = some avs → ∀ v ∈ avs.map (·.2), v.ids = [] := by
      intro avs hps v hv
      obtain ⟨p, hp, rfl⟩ := List.mem_map.1 hv
      obtain ⟨a, ha, hap⟩ := mapAll_mem hps p hp
      obtain ⟨av, h1, rfl⟩ := map_some hap
      have : ∀ q, q ∉ av.ids := by
        intro q hq
        have : q ∈ operIds cx sl o := by
          unfold operIds
          rw [List.mem_flatMap]
          refine ⟨a.2, by simp only [hop, Op.operands]; exact List.mem_map.2 ⟨a, ha, rfl⟩, ?_⟩
          rw [h1]
          exact hq
        rw [hids] at this
        cases this
      exact List.eq_nil_iff_forall_not_mem.2 this
    unfold evalOp at he
    simp only [hop] at he
    split at he
    · rename_i avs e1 i k hps hek
      split at he
      · rename_i hb
        split at he
        · rename_i fl hgr
          split at he
          · rename_i l H2 hab
            obtain ⟨rfl, hab2⟩ := absorbAll_none (hnone avs hps) hab
            refine fin (.sl m 0 [] 0 (l.length : Nat)) (some (.arr fl k l 0 none)) (fun K nx' => ?_)
            unfold evalOp
            simp only [hop, hps, hek, hb, hgr, hab2]
            rfl
          · cases he
        · rename_i hgr
          split at he
          · rename_i l H2 hab
            obtain ⟨rfl, hab2⟩ := absorbAll_none (hnone avs hps) hab
            refine fin (.lit k l) none (fun K nx' => ?_)
            unfold evalOp
            simp only [hop, hps, hek, hb, hgr, hab2]
            rfl
          · cases he
      · cases he
    · cases he
  | call c =>
    unfold clsOp at hc
    simp only [hop] at hc
    split at hc <;> first | cases hc; done | simp_all
  | _ => unfold clsOp at hc; simp only [hop] at hc; cases hc

theorem oper_ids {x : Operand} {v : AV} (hx : x ∈ o.op.operands.toList) (hv : operand cx sl x = some v) : ∀ q ∈ v.ids, q ∈ operIds cx sl o := by
  intro q hq
  unfold operIds
  rw [List.mem_flatMap]
  exact ⟨x, hx, by rw [hv]; exact hq⟩

/-- It reads; what it answers hangs on the roots that its operands name. -/
theorem read_ok (hc : clsOp cx h sl o = .read) (he : evalOp cx h callF o ⟨sl, H, nx⟩ m = some r) : r.H = H ∧ ∀ K nx', (∀ q ∈ operIds cx sl o, H q = K q) → evalOp cx h callF o ⟨sl, K, nx'⟩ m = some ⟨r.v, K⟩ := by
  have fin : ∀ (x : Heap → Option AV), (∀ K nx', evalOp cx h callF o ⟨sl, K, nx'⟩ m = (x K).map (⟨·, K⟩)) → (∀ K, (∀ q ∈ operIds cx sl o, H q = K q) → x H = x K) → r.H = H ∧ ∀ K nx', (∀ q ∈ operIds cx sl o, H q = K q) → evalOp cx h callF o ⟨sl, K, nx'⟩ m = some ⟨r.v, K⟩ := by
    intro x hf hloc
    rw [hf] at he
    obtain ⟨v, hv, rfl⟩ := map_some he
    exact ⟨rfl, fun K nx' hK => by rw [hf, ← hloc K hK, hv]; rfl⟩
  cases hop : o.op with
  | fieldAddr t x f =>
    refine fin (fun K => (operand cx sl x).bind fun a => fieldAddr cx K t a f) (fun K nx' => ?_) (fun K hK => ?_)
    · unfold evalOp
      simp only [hop]
      cases operand cx sl x with
      | none => rfl
      | some v => exact valO
    · cases hx : operand cx sl x with
      | none => rfl
      | some v => exact fieldAddr_local (fun q hq => hK q (oper_ids (by simp [hop, Op.operands]) hx q hq))
  | load t x =>
    refine fin (fun K => (operand cx sl x).bind fun a => load cx K t a) (fun K nx' => ?_) (fun K hK => ?_)
    · unfold evalOp
      simp only [hop]
      cases operand cx sl x with
      | none => rfl
      | some v => exact valO
    · cases hx : operand cx sl x with
      | none => rfl
      | some v => exact load_local (fun q hq => hK q (oper_ids (by simp [hop, Op.operands]) hx q hq))
  | convert s d x =>
    refine fin (fun K => (operand cx sl x).bind fun a => convert cx K s d a) (fun K nx' => ?_) (fun K hK => ?_)
    · unfold evalOp
      simp only [hop]
      cases operand cx sl x with
      | none => rfl
      | some v => exact valO
    · cases hx : operand cx sl x with
      | none => rfl
      | some v => exact convert_local (fun q hq => hK q (oper_ids (by simp [hop, Op.operands]) hx q hq))
  | indexAddr t x i =>
    refine fin (fun K => (operand cx sl x).bind fun a => (operand cx sl i).bind fun b => indexAddr cx K t a b) (fun K nx' => ?_) (fun K hK => ?_)
    · unfold evalOp
      simp only [hop]
      cases operand cx sl x with
      | none => rfl
      | some v => cases operand cx sl i with
        | none => rfl
        | some u => exact valO
    · cases hx : operand cx sl x with
      | none => rfl
      | some v => cases hi : operand cx sl i with
        | none => rfl
        | some u => exact indexAddr_local (fun q hq => hK q (oper_ids (by simp [hop, Op.operands]) hx q hq))
  | lookup t x i ok =>
    refine fin (fun K => (operand cx sl x).bind fun a => (operand cx sl i).bind fun b => lookup cx K t a b ok) (fun K nx' => ?_) (fun K hK => ?_)
    · unfold evalOp
      simp only [hop]
      cases operand cx sl x with
      | none => rfl
      | some v => cases operand cx sl i with
        | none => rfl
        | some u => exact valO
    · cases hx : operand cx sl x with
      | none => rfl
      | some v => cases hi : operand cx sl i with
        | none => rfl
        | some u => exact lookup_local (fun q hq => hK q (oper_ids (by simp [hop, Op.operands]) hx q hq)) (fun q hq => hK q (oper_ids (by simp [hop, Op.operands]) hi q hq))
  | slice t x lo hi mx =>
    let op (y : Option Operand) : Option (Option AV) := match y with | some y => (match operand cx sl y with | some v => some (some v) | none => none) | none => some none
    refine fin (fun K => (operand cx sl x).bind fun a => (op lo).bind fun l => (op hi).bind fun u => (op mx).bind fun w => cut cx K t a l u w) (fun K nx' => ?_) (fun K hK => ?_)
    · unfold evalOp
      simp only [hop]
      show (match operand cx sl x, op lo, op hi, op mx with | some x, some lo, some hi, some mx => _ | _, _, _, _ => none) = _
      cases operand cx sl x with
      | none => rfl
      | some v => cases op lo with
        | none => rfl
        | some l => cases op hi with
          | none => rfl
          | some u => cases op mx with
            | none => rfl
            | some w => exact valO
    · cases hx : operand cx sl x with
      | none => rfl
      | some v =>
        have hl : ∀ l u w, cut cx H t v l u w = cut cx K t v l u w := fun l u w => cut_local (fun q hq => hK q (oper_ids (by simp [hop, Op.operands]) hx q hq))
        simp only [Option.bind_some, hl]
  | call c =>
    obtain ⟨callee, args, argTypes⟩ := c
    have hlen : callee = .builtin .len := by
      cases callee with
      | builtin b => cases b <;> first | rfl | (simp [clsOp, hop] at hc)
      | _ => simp [clsOp, hop] at hc
    subst hlen
    refine fin (fun K => (mapAll (operand cx sl) args.toList).bind fun as => match as, argTypes.toList with | [x], t :: _ => (lenOf cx K t x).map (intV .i64) | _, _ => none) (fun K nx' => ?_) (fun K hK => ?_)
    · unfold evalOp
      simp only [hop]
      cases mapAll (operand cx sl) args.toList with
      | none => rfl
      | some as =>
        match as, argTypes.toList with
        | [x], t :: _ =>
          simp only [Option.bind_some]
          cases lenOf cx K t x <;> rfl
        | [], _ => rfl
        | [_], [] => rfl
        | _ :: _ :: _, _ => rfl
    · cases hx : mapAll (operand cx sl) args.toList with
      | none => rfl
      | some as =>
        match as, argTypes.toList, hx with
        | [x], t :: _, hx =>
          simp only [Option.bind_some]
          obtain ⟨a, ha, hax⟩ := mapAll_mem hx x (by simp)
          rw [lenOf_local (K := K) (fun q hq => hK q (oper_ids (by simp [hop, Op.operands, Call.operands]; simpa using ha) hax q hq))]
        | [], _, _ => rfl
        | [_], [], _ => rfl
        | _ :: _ :: _, _, _ => rfl
  | move x => unfold clsOp at hc; simp only [hop] at hc; split at hc <;> first | cases hc; done | (split at hc <;> cases hc)
  | assign x => unfold clsOp at hc; simp only [hop] at hc; split at hc <;> first | cases hc; done | (split at hc <;> cases hc)
  | buildSlice t len ps => unfold clsOp at hc; simp only [hop] at hc; split at hc <;> cases hc
  | _ => unfold clsOp at hc; simp only [hop] at hc; cases hc
end
end Go.Lite
end

section
/-
  LITE 56: operations that may go in more than one order: the text's order.
-/
set_option linter.unusedVariables false
set_option linter.unusedSimpArgs false
namespace Go.Lite
open Go Go.RowKit

/-! ### Some of the steps, in order -/
def cf {α : Type} (D : Nat → Bool) (e : Nat → α → α) (x : α) : Nat → α
  | 0 => x
  | n + 1 => if D n = true then e n (cf D e x n) else cf D e x n
theorem cf_congr {α : Type} {D D' : Nat → Bool} {e : Nat → α → α} {x : α} : ∀ n, (∀ i, i < n → D i = D' i ∨ ∀ y, e i y = y) → cf D e x n = cf D' e x n
  | 0, _ => rfl
  | n + 1, h => by
    have ih := cf_congr (x := x) n (fun i hi => h i (by omega))
    simp only [cf, ih]
    rcases h n (by omega) with h | h
    · rw [h]
    · split <;> split <;> simp [h]
theorem cf_insert {α : Type} {D D' : Nat → Bool} {e : Nat → α → α} {x : α} {j : Nat} (hj : D j = false) (hD : ∀ i, D' i = (D i || decide (i = j))) : ∀ n, j < n → (∀ i, j < i → i < n → D i = true → ∀ y, e i (e j y) = e j (e i y)) → cf D' e x n = e j (cf D e x n)
  | 0, h, _ => by omega
  | n + 1, h, hc => by
    by_cases hn : j = n
    · subst hn
      have h1 : cf D' e x j = cf D e x j := cf_congr j (fun i hi => .inl (by rw [hD]; simp; omega))
      have h2 : D' j = true := by rw [hD]; simp
      simp only [cf, h2, hj, h1]
      simp
    · have ih := cf_insert (e := e) (x := x) hj hD n (by omega) (fun i h1 h2 => hc i h1 (by omega))
      have h2 : D' n = D n := by rw [hD]; simp; omega
      simp only [cf, ih, h2]
      split
      · rename_i hDn; exact hc n (by omega) (by omega) hDn _
      · rfl
theorem cf_prefix {α : Type} {e : Nat → α → α} {x : α} {p : Nat} : ∀ n, p ≤ n → cf (fun i => decide (i < p)) e x n = cf (fun _ => true) e x p
  | 0, h => by have : p = 0 := by omega
               subst this; rfl
  | n + 1, h => by
    by_cases hp : p = n + 1
    · subst hp
      exact cf_congr (n + 1) (fun i hi => .inl (by simp [hi]))
    · have ih := cf_prefix (e := e) (x := x) (p := p) n (by omega)
      simp only [cf, ih]
      rw [if_neg (by simp; omega)]
def cnt (D : Nat → Bool) : Nat → Nat
  | 0 => 0
  | n + 1 => cnt D n + (if D n = true then 0 else 1)
theorem cnt_congr {D D' : Nat → Bool} : ∀ n, (∀ i, i < n → D i = D' i) → cnt D n = cnt D' n
  | 0, _ => rfl
  | n + 1, h => by simp only [cnt, cnt_congr n (fun i hi => h i (by omega)), h n (by omega)]
theorem cnt_insert {D D' : Nat → Bool} {j : Nat} (hj : D j = false) (hD : ∀ i, D' i = (D i || decide (i = j))) : ∀ n, j < n → cnt D' n + 1 = cnt D n
  | 0, h => by omega
  | n + 1, h => by
    by_cases hn : j = n
    · subst hn
      have h1 : cnt D' j = cnt D j := cnt_congr j (fun i hi => by rw [hD]; simp; omega)
      have h2 : D' j = true := by rw [hD]; simp
      simp only [cnt, h1, h2, hj]
      simp
    · have ih := cnt_insert hj hD n (by omega)
      have h2 : D' n = D n := by rw [hD]; simp; omega
      simp only [cnt, h2]
      omega
theorem cnt_zero {D : Nat → Bool} : ∀ n, cnt D n = 0 → ∀ i, i < n → D i = true
  | 0, _, i, hi => by omega
  | n + 1, h, i, hi => by
    simp only [cnt] at h
    by_cases hn : i = n
    · subst hn
      cases hD : D i with
      | true => rfl
      | false => rw [hD] at h; simp at h
    · exact cnt_zero n (by omega) i (by omega)

/-! ### The trace -/
def stAt (t : List Rec) (s' : St) (i : Nat) : St := match t[i]? with
  | some r => r.pre
  | none => s'

structure RecOk (cx : Cx) (h : Hint) (callF : CallF) (nt : Nat) (ops : Array Oper) (s s' : St) (t : List Rec) (i : Nat) (r : Rec) : Prop where
  o : ops[i]? = some r.o
  nx : r.pre.next = s.next + 8 * i
  suc : stAt t s' (i + 1) = ⟨putD r.o.dst r.v r.pre.slots, r.H, r.pre.next + 8⟩
  dst : ∀ d, r.o.dst = some d → d < nt
  yes : r.w = true → (asked ops r.pre.slots r.o = some none ∨ asked ops r.pre.slots r.o = some (some true)) ∧ evalOp cx h callF r.o r.pre r.pre.next = some ⟨r.v, r.H⟩
  no : r.w = false → asked ops r.pre.slots r.o = some (some false) ∧ r.v = .skip ∧ r.H = r.pre.heap
  pr : ∀ e ∈ r.o.after.toList, Go.Region.binds .any e = true → e.on < i ∧ e.on ∈ r.pr
  prin : ∀ k ∈ r.pr, ∃ e ∈ r.o.after.toList, Go.Region.binds .any e = true ∧ (k = e.on ∨ ∃ r', t[e.on]? = some r' ∧ k ∈ r'.pr)

theorem predsOf_ok {prs : List (List Nat)} {i : Nat} : ∀ {es : List Edge} {l : List Nat}, predsOf prs i es = some l →
    (∀ e ∈ es, Go.Region.binds .any e = true → e.on < i ∧ e.on ∈ l) ∧ ∀ k ∈ l, ∃ e ∈ es, Go.Region.binds .any e = true ∧ e.on < i ∧ (k = e.on ∨ ∃ m, prs[e.on]? = some m ∧ k ∈ m)
  | [], l, h => by
    injection h with h
    subst h
    exact ⟨fun e he => (by cases he), fun k hk => (by cases hk)⟩
  | e :: es, l, h => by
    simp only [predsOf] at h
    split at h
    · rename_i l' hb hl
      obtain ⟨i1, i2⟩ := predsOf_ok hl
      split at h
      · rename_i m hlt hm
        injection h with h
        subst h
        have hlt := of_decide_eq_true hlt
        rw [get?_eq] at hm
        refine ⟨fun e' he' hb' => ?_, fun k hk => ?_⟩
        · rcases List.mem_cons.1 he' with rfl | he'
          · exact ⟨hlt, by simp⟩
          · obtain ⟨a, b⟩ := i1 e' he' hb'
            exact ⟨a, by simp [b]⟩
        · rcases List.mem_cons.1 hk with rfl | hk
          · exact ⟨e, by simp, hb, hlt, .inl rfl⟩
          · rcases List.mem_append.1 hk with hk | hk
            · exact ⟨e, by simp, hb, hlt, .inr ⟨m, hm, hk⟩⟩
            · obtain ⟨e', a, b, c, d⟩ := i2 k hk
              exact ⟨e', by simp [a], b, c, d⟩
      · cases h
    · rename_i l' hb hl
      injection h with h
      subst h
      obtain ⟨i1, i2⟩ := predsOf_ok hl
      refine ⟨fun e' he' hb' => ?_, fun k hk => ?_⟩
      · rcases List.mem_cons.1 he' with rfl | he'
        · rw [hb] at hb'; cases hb'
        · exact i1 e' he' hb'
      · obtain ⟨e', a, b⟩ := i2 k hk
        exact ⟨e', by simp [a], b⟩
    · cases h

theorem stAt_app {t1 t2 : List Rec} {s' : St} {i : Nat} (h : t1.length = i) (k : Nat) : stAt (t1 ++ t2) s' (i + k) = stAt t2 s' k := by
  unfold stAt
  rw [List.getElem?_append_right (by omega), show i + k - t1.length = k by omega]

theorem traceOps_ok {cx : Cx} {h : Hint} {callF : CallF} {nt : Nat} {ops : Array Oper} {s0 : St} : ∀ (l : List Oper) (i : Nat) (prs : List (List Nat)) (s s' : St) (t T0 : List Rec), traceOps cx h callF nt ops i prs l s = some (t, s') → ops.toList.drop i = l → T0.length = i → prs = T0.map Rec.pr → s.next = s0.next + 8 * i →
    t.length = l.length ∧ stAt t s' 0 = s ∧ s'.next = s0.next + 8 * (i + l.length) ∧ ∀ k r, t[k]? = some r → RecOk cx h callF nt ops s0 s' (T0 ++ t) (i + k) r
  | [], i, prs, s, s', t, T0, he, hl, h0, hp, hn => by
    simp only [traceOps, Option.some.injEq, Prod.mk.injEq] at he
    obtain ⟨rfl, rfl⟩ := he
    exact ⟨rfl, rfl, by simpa using hn, fun k r hk => by simp at hk⟩
  | o :: l, i, prs, s, s', t, T0, he, hl, h0, hp, hn => by
    have ho : ops[i]? = some o := by
      have : (ops.toList.drop i)[0]? = some o := by rw [hl]; rfl
      simpa using this
    have hl' : ops.toList.drop (i + 1) = l := by rw [← List.drop_drop, hl]; rfl
    have step : ∀ (w : Bool) (pr : List Nat) (v : AV) (H : Heap) (t1 : List Rec), predsOf prs i o.after.toList = some pr → (∀ d, o.dst = some d → d < nt) →
        (w = true → (asked ops s.slots o = some none ∨ asked ops s.slots o = some (some true)) ∧ evalOp cx h callF o s s.next = some ⟨v, H⟩) → (w = false → asked ops s.slots o = some (some false) ∧ v = .skip ∧ H = s.heap) →
        traceOps cx h callF nt ops (i + 1) (prs ++ [pr]) l ⟨putD o.dst v s.slots, H, s.next + 8⟩ = some (t1, s') → t = ⟨o, w, s, v, H, pr⟩ :: t1 →
        t.length = (o :: l).length ∧ stAt t s' 0 = s ∧ s'.next = s0.next + 8 * (i + (o :: l).length) ∧ ∀ k r, t[k]? = some r → RecOk cx h callF nt ops s0 s' (T0 ++ t) (i + k) r := by
      intro w pr v H t1 hpr hd hy hno htr ht
      subst ht
      obtain ⟨r1, r2, r3, r4⟩ := traceOps_ok l (i + 1) _ _ s' t1 (T0 ++ [⟨o, w, s, v, H, pr⟩]) htr hl' (by simp [h0]) (by rw [hp]; simp) (by show s.next + 8 = s0.next + 8 * (i + 1); omega)
      obtain ⟨p1, p2⟩ := predsOf_ok hpr
      refine ⟨by simp [r1], rfl, by rw [r3, List.length_cons]; omega, fun k r hk => ?_⟩
      cases k with
      | zero =>
        simp at hk
        subst hk
        refine ⟨ho, hn, ?_, hd, hy, hno, p1, fun k hk => ?_⟩
        · rw [Nat.add_zero, stAt_app h0 1]
          exact r2
        · obtain ⟨e, a, b, c, d⟩ := p2 k hk
          refine ⟨e, a, b, d.imp id (fun ⟨m, hm, hkm⟩ => ?_)⟩
          rw [hp, List.getElem?_map] at hm
          obtain ⟨r', hr', rfl⟩ := map_some hm
          exact ⟨r', by rw [List.getElem?_append_left (by omega)]; exact hr', hkm⟩
      | succ k =>
        have := r4 k r (by simpa using hk)
        rw [List.append_assoc] at this
        rw [show i + (k + 1) = i + 1 + k by omega]
        exact this
    simp only [traceOps] at he
    split at he
    · rename_i pr hd hask hpr
      split at he
      · rename_i r hr
        split at he
        · rename_i t1 s1 htr
          simp only [Option.some.injEq, Prod.mk.injEq] at he
          obtain ⟨rfl, rfl⟩ := he
          exact step true pr r.v r.H t1 hpr (dst_of hd) (fun _ => ⟨.inl hask, hr⟩) (fun h => by cases h) htr rfl
        · cases he
      · cases he
    · rename_i b pr hd hask hpr
      cases b with
      | true =>
        simp only [ite'] at he
        split at he
        · rename_i r hr
          split at he
          · rename_i t1 s1 htr
            simp only [Option.some.injEq, Prod.mk.injEq] at he
            obtain ⟨rfl, rfl⟩ := he
            exact step true pr r.v r.H t1 hpr (dst_of hd) (fun _ => ⟨.inr hask, hr⟩) (fun h => by cases h) htr rfl
          · cases he
        · cases he
      | false =>
        simp only [ite'] at he
        split at he
        · rename_i t1 s1 htr
          simp only [Option.some.injEq, Prod.mk.injEq] at he
          obtain ⟨rfl, rfl⟩ := he
          exact step false pr .skip s.heap t1 hpr (dst_of hd) (fun h => by cases h) (fun _ => ⟨hask, rfl, rfl⟩) htr rfl
        · cases he
    · cases he

theorem pairsOk_at {cx : Cx} {h : Hint} {callF : CallF} {ops : Array Oper} : ∀ (l : List Rec) (b : Nat), pairsOk cx h callF ops b l = true → ∀ i j (x y : Rec), i < j → l[i]? = some x → l[j]? = some y → (b + i) ∈ y.pr ∨ pairOk cx h callF ops x y = true
  | [], _, _, i, j, x, y, _, hx, _ => by simp at hx
  | a :: l, b, hp, i, j, x, y, hij, hx, hy => by
    simp only [pairsOk, Bool.and_eq_true, List.all_eq_true] at hp
    obtain ⟨j', rfl⟩ : ∃ j', j = j' + 1 := ⟨j - 1, by omega⟩
    have hy' : l[j']? = some y := by simpa using hy
    cases i with
    | zero =>
      simp at hx
      subst hx
      have := hp.1 y (List.mem_of_getElem? hy')
      simp only [Bool.or_eq_true, List.contains_eq_mem, decide_eq_true_eq] at this
      exact this
    | succ i =>
      have := pairsOk_at l (b + 1) hp.2 i j' x y (by omega) (by simpa using hx) hy'
      rwa [show b + 1 + i = b + (i + 1) by omega] at this
end Go.Lite
end

section
/-
  LITE 57: the text's order as a run; and operations by their operands.
-/
set_option linter.unusedVariables false
set_option linter.unusedSimpArgs false
namespace Go.Lite
open Go Go.RowKit

theorem mapAll_congr {α β : Type} {f g : α → Option β} : ∀ {l : List α}, (∀ a ∈ l, f a = g a) → mapAll f l = mapAll g l
  | [], _ => rfl
  | a :: l, h => by simp only [mapAll, h a (by simp), mapAll_congr (l := l) (f := f) (g := g) (fun b hb => h b (by simp [hb]))]

/-- An operation hangs on its own operands alone. -/
theorem evalOp_congr {cx : Cx} {h : Hint} {callF : CallF} {o : Oper} {sl sl' : Slots} (hs : ∀ x ∈ o.op.operands.toList, operand cx sl x = operand cx sl' x) (H : Heap) (nx nx' m : Nat) :
    evalOp cx h callF o ⟨sl, H, nx⟩ m = evalOp cx h callF o ⟨sl', H, nx'⟩ m := by
  have parts : ∀ ps : Array (Nat × Operand), o.op.operands = (ps.toList.map (·.2)).toArray → mapAll (fun p => (operand cx sl p.2).map (p.1, ·)) ps.toList = mapAll (fun p => (operand cx sl' p.2).map (p.1, ·)) ps.toList := by
    intro ps hps
    exact mapAll_congr (fun p hp => by rw [hs p.2 (by rw [hps]; exact List.mem_map.2 ⟨p, hp, rfl⟩)])
  unfold evalOp
  cases hop : o.op with
  | move x => simp only [hs x (by simp [hop, Op.operands])]
  | assign x => simp only [hs x (by simp [hop, Op.operands])]
  | pick c a b => simp only [hs c (by simp [hop, Op.operands]), hs a (by simp [hop, Op.operands]), hs b (by simp [hop, Op.operands])]
  | unOp op t x => simp only [hs x (by simp [hop, Op.operands])]
  | binOp op t x y z => simp only [hs x (by simp [hop, Op.operands]), hs y (by simp [hop, Op.operands])]
  | convert a b x => simp only [hs x (by simp [hop, Op.operands])]
  | extract x i => simp only [hs x (by simp [hop, Op.operands])]
  | nilCheck x => simp only [hs x (by simp [hop, Op.operands])]
  | fieldAddr t x f => simp only [hs x (by simp [hop, Op.operands])]
  | field t x f => simp only [hs x (by simp [hop, Op.operands])]
  | load t x => simp only [hs x (by simp [hop, Op.operands])]
  | store t x y => simp only [hs x (by simp [hop, Op.operands]), hs y (by simp [hop, Op.operands])]
  | build t ps => simp only [parts ps (by simp [hop, Op.operands])]
  | box t x => simp only [hs x (by simp [hop, Op.operands])]
  | alloc t => rfl
  | buildSlice t len ps => simp only [parts ps (by simp [hop, Op.operands])]
  | indexAddr t x y => simp only [hs x (by simp [hop, Op.operands]), hs y (by simp [hop, Op.operands])]
  | index t x y => simp only [hs x (by simp [hop, Op.operands]), hs y (by simp [hop, Op.operands])]
  | makeSlice t x y => simp only [hs x (by simp [hop, Op.operands]), hs y (by simp [hop, Op.operands])]
  | slice t x lo hi mx =>
    have el : ∀ z, (lo = some z ∨ hi = some z ∨ mx = some z) → operand cx sl z = operand cx sl' z := by
      rintro z (rfl | rfl | rfl) <;> exact hs z (by simp [hop, Op.operands])
    have ex := hs x (by simp [hop, Op.operands])
    rcases lo with _ | l <;> rcases hi with _ | u <;> rcases mx with _ | w <;> simp only [ex] <;> (try rw [el l (by simp)]) <;> (try rw [el u (by simp)]) <;> (try rw [el w (by simp)])
  | makeMap t x =>
    cases x with
    | none => rfl
    | some x => simp only [hs x (by simp [hop, Op.operands])]
  | lookup t x y ok => simp only [hs x (by simp [hop, Op.operands]), hs y (by simp [hop, Op.operands])]
  | mapUpdate t x y z => simp only [hs x (by simp [hop, Op.operands]), hs y (by simp [hop, Op.operands]), hs z (by simp [hop, Op.operands])]
  | makeInterface t x => simp only [hs x (by simp [hop, Op.operands])]
  | makeFunc fn first caps =>
    cases fn with
    | func f =>
      have e : mapAll (operand cx sl) caps.toList = mapAll (operand cx sl') caps.toList := mapAll_congr (fun x hx => hs x (by simp only [hop, Op.operands, Array.toList_append, List.mem_append]; exact .inr hx))
      simp only [e]
    | _ => rfl
  | call c =>
    have e : mapAll (operand cx sl) c.args.toList = mapAll (operand cx sl') c.args.toList := mapAll_congr (fun x hx => hs x (by simp only [hop, Op.operands, Call.operands, Array.toList_append, List.mem_append]; exact .inr hx))
    have ef : ∀ f, c.callee = .value f → operand cx sl f = operand cx sl' f := fun f hf => hs f (by simp [hop, Op.operands, Call.operands, hf])
    simp only [e]
    cases mapAll (operand cx sl') c.args.toList with
    | none => rfl
    | some args =>
      cases hcal : c.callee with
      | value f => simp only [ef f hcal]
      | invoke a b => rfl
      | builtin b => rfl
  | _ => rfl

section
variable {P : Program} {hint : Nat → Hint} {glob : Nat → Option Comp} {E : Env} {n : Nat → Prop}

theorem op_exists (hp : PHyp P) {h : Hint} {callF : CallF} {o : Oper} {s : St} {a : Act} {m : Nat} {r : Res} (hspec : CallSpec P glob callF) (hgl : GlobOk glob E) (hg : Good E n) (hH : E.H = s.heap) (hev : Ev P hint glob E n s.slots a.eval)
    (fresh : ∀ i, i < 8 → ¬ n (m + i)) (he : evalOp (mkCx P hint glob) h callF o s m = some r) : ∃ v E', Post E n r (upto n m) v E' := by
  have := op_wp (Q := fun _ _ _ => ∃ v E', Post E n r (upto n m) v E') (K := fun _ _ => ∃ v E', Post E n r (upto n m) v E') hp hspec hgl hg hH hev fresh he (fun v E' hpost => ⟨v, E', hpost⟩)
  unfold Oper.wp at this
  revert this
  generalize (execOp a.eval o).run P E.w = res
  intro this
  cases res with
  | ok nx w' =>
    cases nx <;> simp only [Oper.upon] at this <;> first
      | exact this
      | exact this.elim
      | (obtain ⟨e, w'', fr, hR, _⟩ := this []
         cases e with
         | returned v => exact hR
         | panicked c => exact hR
         | outgrown => obtain ⟨_, _, h⟩ := hR; exact h)
      | (obtain ⟨v, w'', hR, _⟩ := this default []
         exact hR)
  | halt x w' => cases x <;> simp only [Oper.upon] at this <;> first | exact this.elim | exact this
end

section
variable {P : Program} {hint : Nat → Hint} {glob : Nat → Option Comp} {nt : Nat} {E0 : Env} {N0 : Nat → Prop}

/-- At every place of the text there is a run that stands so; names are below the next one. -/
theorem text_run (hp : PHyp P) {h : Hint} {callF : CallF} (hspec : CallSpec P glob callF) {ops : Array Oper} {s s' : St} {t : List Rec} {a : Act} {w : World} (hat : At glob nt E0 N0 s a w) (h0 : stAt t s' 0 = s)
    (hrec : ∀ k r, t[k]? = some r → RecOk (mkCx P hint glob) h callF nt ops s s' t k r) : ∀ i, i ≤ t.length → ∃ E N a', AtS glob nt E0 N0 E N (stAt t s' i) a' ∧ ∀ q, N q → q < s.next + 8 * i
  | 0, _ => by
    obtain ⟨E, N, _, h1, h2⟩ := hat
    refine ⟨E, N, a, by rw [h0]; exact h1, fun q hq => ?_⟩
    rcases Nat.lt_or_ge q s.next with h | h
    · omega
    · exact absurd hq (h2 q h)
  | i + 1, hi => by
    obtain ⟨E, N, a1, h1, h2⟩ := text_run hp hspec hat h0 hrec i (by omega)
    have hr : t[i]? = some t[i] := List.getElem?_eq_getElem (by omega)
    have rk := hrec i _ hr
    have hpre : stAt t s' i = (t[i]'(by omega)).pre := by unfold stAt; rw [hr]
    rw [hpre] at h1
    rw [rk.suc]
    cases hw : (t[i]'(by omega)).w with
    | true =>
      obtain ⟨_, he⟩ := rk.yes hw
      obtain ⟨v, E', hpost⟩ := op_exists (a := a1) hp hspec h1.rel.glob h1.rel.good h1.rel.H (fun x av hx => operand_rel h1.rel hx) (fun j hj hn => by have := h2 _ hn; rw [rk.nx] at this; omega) he
      refine ⟨E', _, _, h1.put hpost (fun q hq => .inl hq) rk.dst, fun q hq => ?_⟩
      rcases hq with hq | hq
      · have := h2 q hq; omega
      · rw [rk.nx] at hq; omega
    | false =>
      obtain ⟨_, hv, hH⟩ := rk.no hw
      rw [hv, hH]
      exact ⟨E, N, _, h1.skip rk.dst, fun q hq => by have := h2 q hq; omega⟩
end
end Go.Lite
end

section
/-
  LITE 58: what stands where some of a region's operations are done.
-/
set_option linter.unusedVariables false
set_option linter.unusedSimpArgs false
namespace Go.Lite
open Go Go.RowKit

structure Drawn (cx : Cx) (h : Hint) (callF : CallF) (nt : Nat) (ops : Array Oper) (s s' : St) (t : List Rec) : Prop where
  rc : ∀ k r, t[k]? = some r → RecOk cx h callF nt ops s s' t k r
  len : t.length = ops.size
  first : stAt t s' 0 = s
  next : s'.next = s.next + 8 * ops.size
  pairs : ∀ i j (x y : Rec), i < j → t[i]? = some x → t[j]? = some y → i ∈ y.pr ∨ pairOk cx h callF ops x y = true
  names : ∀ i, i ≤ t.length → (∀ r root, (stAt t s' i).heap r = some root → r < s.next + 8 * i ∧ ∀ q ∈ root.ids, q < s.next + 8 * i) ∧ ∀ x, ∀ q ∈ ((stAt t s' i).slots x).ids, q < s.next + 8 * i

def Later (cx : Cx) (h : Hint) (t : List Rec) (i q : Nat) : Prop := ∃ k r, i < k ∧ t[k]? = some r ∧ r.cls cx h = .make ∧ q = r.pre.next
/-- What an operation does to a slot. -/
def es (t : List Rec) (x i : Nat) (v : AV) : AV := match t[i]? with
  | some r => if r.o.dst = some x then r.v else v
  | none => v
open Classical in
/-- What an operation does to a root. -/
noncomputable def eh (cx : Cx) (h : Hint) (t : List Rec) (q i : Nat) (X : Option Root) : Option Root := match t[i]? with
  | some r => match r.cls cx h with
    | .make => if q = r.pre.next then r.H q else X
    | .chg => if Later cx h t i q then X else r.H q
    | _ => X
  | none => X

def slotsD (t : List Rec) (s : St) (n : Nat) (D : Nat → Bool) : Slots := fun x => cf D (es t x) (s.slots x) n
noncomputable def heapD (cx : Cx) (h : Hint) (t : List Rec) (s : St) (n : Nat) (D : Nat → Bool) : Heap := fun q => cf D (eh cx h t q) (s.heap q) n

section
variable {cx : Cx} {h : Hint} {callF : CallF} {nt : Nat} {ops : Array Oper} {s s' : St} {t : List Rec}

theorem stAt_of {i : Nat} {r : Rec} (hr : t[i]? = some r) : stAt t s' i = r.pre := by unfold stAt; rw [hr]
theorem nextAt (d : Drawn cx h callF nt ops s s' t) {i : Nat} {r : Rec} (hr : t[i]? = some r) : r.pre.next = s.next + 8 * i := (d.rc i r hr).nx

theorem text_slots (d : Drawn cx h callF nt ops s s' t) (x : Nat) : ∀ i, i ≤ t.length → (stAt t s' i).slots x = cf (fun _ => true) (es t x) (s.slots x) i
  | 0, _ => by rw [d.first]; rfl
  | i + 1, hi => by
    have hr : t[i]? = some t[i] := List.getElem?_eq_getElem (by omega)
    have ih := text_slots d x i (by omega)
    rw [stAt_of hr] at ih
    rw [(d.rc i _ hr).suc]
    simp only [cf, if_true, ← ih, es, hr]
    cases hd : (t[i]'(by omega)).o.dst with
    | none => simp [putD]
    | some y =>
      simp only [putD, upd, Option.some.injEq]
      by_cases hxy : x = y
      · subst hxy; simp
      · rw [if_neg hxy, if_neg (Ne.symm hxy)]

theorem text_heap (d : Drawn cx h callF nt ops s s' t) (q : Nat) : ∀ i, i ≤ t.length → (stAt t s' i).heap q = cf (fun _ => true) (eh cx h t q) (s.heap q) i
  | 0, _ => by rw [d.first]; rfl
  | i + 1, hi => by
    have hr : t[i]? = some t[i] := List.getElem?_eq_getElem (by omega)
    generalize t[i]'(by omega) = r at hr
    have ih := text_heap d q i (by omega)
    rw [stAt_of hr] at ih
    have rk := d.rc i r hr
    rw [rk.suc]
    simp only [cf, if_true, ← ih, eh, hr]
    cases hw : r.w with
    | false =>
      have hc : r.cls cx h = .pure := by unfold Rec.cls; rw [hw]
      rw [hc]
      simp only [(rk.no hw).2.2]
    | true =>
      have hcl : r.cls cx h = clsOp cx h r.pre.slots r.o := by unfold Rec.cls; rw [hw]
      obtain ⟨_, he⟩ := rk.yes hw
      cases hc : clsOp cx h r.pre.slots r.o with
      | pure => rw [hcl, hc]; exact congrFun (pure_ok hc he).1 q
      | read => rw [hcl, hc]; exact congrFun (read_ok hc he).1 q
      | make =>
        rw [hcl, hc]
        obtain ⟨X, hX, _⟩ := make_ok hc he
        have hX : r.H = setO r.pre.next X r.pre.heap := hX
        simp only
        by_cases hq : q = r.pre.next
        · rw [if_pos hq]
        · rw [if_neg hq, hX]
          cases X with
          | none => rfl
          | some x => exact upd_other _ _ hq
      | chg =>
        rw [hcl, hc]
        simp only
        by_cases hl : Later cx h t i q
        · rw [if_pos hl]
          obtain ⟨k, r', hik, hr', _, rfl⟩ := hl
          have hk := nextAt d hr'
          have n1 := (d.names i (by omega)).1 r'.pre.next
          have n2 := (d.names (i + 1) (by omega)).1 r'.pre.next
          rw [stAt_of hr] at n1
          rw [rk.suc] at n2
          have z1 : r.pre.heap r'.pre.next = none := by
            cases hx : r.pre.heap r'.pre.next with
            | none => rfl
            | some root => have := (n1 root hx).1; omega
          have z2 : r.H r'.pre.next = none := by
            cases hx : r.H r'.pre.next with
            | none => rfl
            | some root => have := (n2 root hx).1; omega
          rw [z1]; exact z2
        · rw [if_neg hl]

/-- Where no operation that must go ahead is missing. -/
structure Ideal (t : List Rec) (D : Nat → Bool) : Prop where
  out : ∀ i r, D i = true → t[i]? = some r → ∀ k ∈ r.pr, D k = true
structure Ready (t : List Rec) (D : Nat → Bool) (j : Nat) (r : Rec) : Prop where
  at_ : t[j]? = some r
  not : D j = false
  pr : ∀ k ∈ r.pr, D k = true

theorem pair_before (d : Drawn cx h callF nt ops s s' t) {D : Nat → Bool} {j : Nat} {r : Rec} (hr : Ready t D j r) {i : Nat} {x : Rec} (hi : t[i]? = some x) (hij : i < j) (hD : D i = false) : pairOk cx h callF ops x r = true := by
  rcases d.pairs i j x r hij hi hr.at_ with h | h
  · have := hr.pr i h
    rw [hD] at this; cases this
  · exact h
theorem pair_after (d : Drawn cx h callF nt ops s s' t) {D : Nat → Bool} (hI : Ideal t D) {j : Nat} {r : Rec} (hr : Ready t D j r) {i : Nat} {x : Rec} (hi : t[i]? = some x) (hij : j < i) (hD : D i = true) : pairOk cx h callF ops r x = true := by
  rcases d.pairs j i r x hij hr.at_ hi with h | h
  · have := hI.out i x hD hi j h
    rw [hr.not] at this; cases this
  · exact h
theorem pairOk_apart {a b : Rec} (hp : pairOk cx h callF ops a b = true) : a.o.apart ops b.o = true := by
  unfold pairOk at hp
  simp only [Bool.and_eq_true] at hp
  exact hp.1

/-- What an operation looks at is as it was in the text's order. -/
theorem slots_agree (d : Drawn cx h callF nt ops s s' t) {D : Nat → Bool} (hI : Ideal t D) {j : Nat} {r : Rec} (hr : Ready t D j r) {x : Nat} (hx : x ∈ r.o.looksAt ops) : slotsD t s t.length D x = r.pre.slots x := by
  have hj : j < t.length := (List.getElem?_eq_some_iff.1 hr.at_).1
  have h1 : slotsD t s t.length D x = cf (fun i => decide (i < j)) (es t x) (s.slots x) t.length := by
    refine cf_congr _ (fun i hi => ?_)
    have hri : t[i]? = some t[i] := List.getElem?_eq_getElem hi
    rcases Nat.lt_trichotomy i j with hij | rfl | hij
    · cases hD : D i with
      | true => left; simp [hij]
      | false =>
        right
        intro y
        have := (Oper.apart_spec (pairOk_apart (pair_before d hr hri hij hD))).1
        simp only [es, hri]
        rw [if_neg (fun hd => this x hd hx)]
    · left; rw [hr.not]; simp
    · cases hD : D i with
      | false => left; simp; omega
      | true =>
        right
        intro y
        have := (Oper.apart_spec (pairOk_apart (pair_after d hI hr hri hij hD))).2.2
        simp only [es, hri]
        rw [if_neg (fun hd => this x hd hx)]
  rw [h1, cf_prefix _ (by omega), ← text_slots d x j (by omega), stAt_of hr.at_]

theorem slots_insert (d : Drawn cx h callF nt ops s s' t) {D D' : Nat → Bool} (hI : Ideal t D) {j : Nat} {r : Rec} (hr : Ready t D j r) (hD' : ∀ i, D' i = (D i || decide (i = j))) : slotsD t s t.length D' = putD r.o.dst r.v (slotsD t s t.length D) := by
  have hj : j < t.length := (List.getElem?_eq_some_iff.1 hr.at_).1
  funext x
  have : slotsD t s t.length D' x = es t x j (slotsD t s t.length D x) := by
    refine cf_insert hr.not hD' _ hj (fun i hij hi hDi y => ?_)
    have hri : t[i]? = some t[i] := List.getElem?_eq_getElem hi
    have := (Oper.apart_spec (pairOk_apart (pair_after d hI hr hri hij hDi))).2.1
    simp only [es, hri, hr.at_]
    by_cases h1 : r.o.dst = some x
    · rw [if_pos h1, if_pos h1, if_neg (this x h1)]
    · rw [if_neg h1, if_neg h1]
  rw [this]
  simp only [es, hr.at_]
  cases hd : r.o.dst with
  | none => simp [putD]
  | some y =>
    simp only [putD, upd, Option.some.injEq]
    by_cases hxy : x = y
    · subst hxy; simp
    · rw [if_neg hxy, if_neg (Ne.symm hxy)]

theorem pairOk_cls {a b : Rec} (hp : pairOk cx h callF ops a b = true) : b.cls cx h = .chg → a.cls cx h ≠ .chg ∧ a.cls cx h ≠ .make := by
  intro hb
  unfold pairOk at hp
  simp only [Bool.and_eq_true, hb] at hp
  constructor
  · intro ha; rw [ha] at hp; simp at hp
  · intro ha; rw [ha] at hp; simp at hp

theorem heap_insert (d : Drawn cx h callF nt ops s s' t) {D D' : Nat → Bool} (hI : Ideal t D) {j : Nat} {r : Rec} (hr : Ready t D j r) (hD' : ∀ i, D' i = (D i || decide (i = j))) (q : Nat) : heapD cx h t s t.length D' q = eh cx h t q j (heapD cx h t s t.length D q) := by
  have hj : j < t.length := (List.getElem?_eq_some_iff.1 hr.at_).1
  refine cf_insert hr.not hD' _ hj (fun i hij hi hDi y => ?_)
  have hri : t[i]? = some t[i] := List.getElem?_eq_getElem hi
  generalize t[i]'hi = x at hri
  have hp := pair_after d hI hr hri hij hDi
  have hcl := pairOk_cls hp
  have nj := nextAt d hr.at_
  have ni := nextAt d hri
  simp only [eh, hri, hr.at_]
  cases hci : x.cls cx h with
  | pure => rfl
  | read => rfl
  | make =>
    cases hcj : r.cls cx h with
    | pure => rfl
    | read => rfl
    | make =>
      simp only
      by_cases h1 : q = x.pre.next
      · rw [if_pos h1, if_pos h1, if_neg (by omega)]
      · rw [if_neg h1, if_neg h1]
    | chg =>
      simp only
      by_cases h1 : q = x.pre.next
      · have hl : Later cx h t j q := ⟨i, x, hij, hri, hci, h1⟩
        rw [if_pos h1, if_pos h1, if_pos hl]
      · rw [if_neg h1, if_neg h1]
  | chg =>
    obtain ⟨h1, h2⟩ := hcl hci
    cases hcj : r.cls cx h with
    | pure => rfl
    | read => rfl
    | make => exact absurd hcj h2
    | chg => exact absurd hcj h1

/-- A changer stands before the roots that it stood before in the text's order. -/
theorem chg_agree (d : Drawn cx h callF nt ops s s' t) {D : Nat → Bool} (hI : Ideal t D) {j : Nat} {r : Rec} (hr : Ready t D j r) (hc : r.cls cx h = .chg) {q : Nat} (hq : ¬ Later cx h t j q) : heapD cx h t s t.length D q = r.pre.heap q := by
  have hj : j < t.length := (List.getElem?_eq_some_iff.1 hr.at_).1
  have h1 : heapD cx h t s t.length D q = cf (fun i => decide (i < j)) (eh cx h t q) (s.heap q) t.length := by
    refine cf_congr _ (fun i hi => ?_)
    have hri : t[i]? = some t[i] := List.getElem?_eq_getElem hi
    generalize t[i]'hi = x at hri
    rcases Nat.lt_trichotomy i j with hij | rfl | hij
    · cases hD : D i with
      | true => left; simp [hij]
      | false =>
        right
        intro y
        obtain ⟨a1, a2⟩ := pairOk_cls (pair_before d hr hri hij hD) hc
        unfold eh
        rw [hri]
        show (match x.cls cx h with | .make => _ | .chg => _ | _ => y) = y
        cases hx : x.cls cx h with
        | pure => rfl
        | read => rfl
        | make => exact absurd hx a2
        | chg => exact absurd hx a1
    · left; rw [hr.not]; simp
    · cases hD : D i with
      | false => left; simp; omega
      | true =>
        right
        intro y
        have hp := pair_after d hI hr hri hij hD
        simp only [eh, hri]
        cases hx : x.cls cx h with
        | pure => rfl
        | read => rfl
        | make =>
          simp only
          rw [if_neg (fun e => hq ⟨i, x, hij, hri, hx, e⟩)]
        | chg => exact absurd hc (pairOk_cls hp hx).1
  rw [h1, cf_prefix _ (by omega), ← text_heap d q j (by omega), stAt_of hr.at_]
end
end Go.Lite
end

section
/-
  LITE 59: a region that draws.
-/
set_option linter.unusedVariables false
set_option linter.unusedSimpArgs false
namespace Go.Lite
open Go Go.RowKit

theorem exists_max {p : Nat → Prop} : ∀ n, (∃ i, i < n ∧ p i) → ∃ c, c < n ∧ p c ∧ ∀ i, c < i → i < n → ¬ p i
  | 0, ⟨i, h, _⟩ => by omega
  | n + 1, ⟨i, h, hp⟩ => by
    by_cases hn : p n
    · exact ⟨n, by omega, hn, fun i h1 h2 => by omega⟩
    · obtain ⟨c, h1, h2, h3⟩ := exists_max n ⟨i, by
        rcases Nat.lt_or_ge i n with h' | h'
        · exact h'
        · have : i = n := by omega
          subst this; exact absurd hp hn, hp⟩
      refine ⟨c, by omega, h2, fun i hi hin => ?_⟩
      by_cases he : i = n
      · subst he; exact hn
      · exact h3 i hi (by omega)
theorem exists_min {p : Nat → Prop} : ∀ n, p n → ∃ c, c ≤ n ∧ p c ∧ ∀ i, i < c → ¬ p i := by
  intro n
  induction n using Nat.strongRecOn with
  | _ n ih =>
    intro hn
    by_cases h : ∃ i, i < n ∧ p i
    · obtain ⟨i, hi, hpi⟩ := h
      obtain ⟨c, h1, h2, h3⟩ := ih i hi hpi
      exact ⟨c, by omega, h2, h3⟩
    · exact ⟨n, Nat.le_refl _, hn, fun i hi hpi => h ⟨i, hi, hpi⟩⟩

section
variable {cx : Cx} {h : Hint} {callF : CallF} {nt : Nat} {ops : Array Oper} {s s' : St} {t : List Rec}

theorem resIs_some {v : AV} {x : Option Res} (hx : resIs v x = true) : ∃ r, x = some r ∧ v = r.v := by
  cases x with
  | none => cases hx
  | some r => exact ⟨r, rfl, same_eq _ _ hx⟩

/-- A reader's roots are as they were at some place of the text at which it answers the same. -/
theorem read_agree (d : Drawn cx h callF nt ops s s' t) {D : Nat → Bool} (hI : Ideal t D) {j : Nat} {r : Rec} (hr : Ready t D j r) (hw : r.w = true) (hc : clsOp cx h r.pre.slots r.o = .read) :
    ∃ H nx, evalOp cx h callF r.o ⟨r.pre.slots, H, nx⟩ r.pre.next = some ⟨r.v, H⟩ ∧ ∀ q ∈ operIds cx r.pre.slots r.o, H q = heapD cx h t s t.length D q := by
  have hj : j < t.length := (List.getElem?_eq_some_iff.1 hr.at_).1
  have rk := d.rc j r hr.at_
  have hcr : r.cls cx h = .read := by unfold Rec.cls; rw [hw]; exact hc
  have hids : ∀ q ∈ operIds cx r.pre.slots r.o, q < s.next + 8 * j := by
    intro q hq
    unfold operIds at hq
    rw [List.mem_flatMap] at hq
    obtain ⟨x, hx, hq⟩ := hq
    cases x with
    | tmp y =>
      have := (d.names j (by omega)).2 y q
      rw [stAt_of hr.at_] at this
      exact this hq
    | const v =>
      simp only [operand] at hq
      cases hv : constAV v with
      | none => rw [hv] at hq; cases hq
      | some av =>
        rw [hv] at hq
        have := (constAV_rel (E := ⟨fun _ => True, default, fun _ => none, fun _ => none, fun _ => False⟩) hv).2
        simp only at hq
        rw [this] at hq
        cases hq
    | func f => simp [operand, AV.ids, idsAll] at hq
    | global g =>
      simp only [operand] at hq
      cases hv : cx.glob g with
      | none => rw [hv] at hq; cases hq
      | some c => rw [hv] at hq; simp [AV.ids] at hq
  -- at a place p of the text before which the changers are those that are done
  have core : ∀ p, p ≤ t.length → (∀ i x, t[i]? = some x → x.cls cx h = .chg → D i = decide (i < p)) → ∀ q ∈ operIds cx r.pre.slots r.o, (∀ i x, t[i]? = some x → x.cls cx h = .make → q = x.pre.next → i < p) → (stAt t s' p).heap q = heapD cx h t s t.length D q := by
    intro p hp hchg q hq hmk
    have h1 : heapD cx h t s t.length D q = cf (fun i => decide (i < p)) (eh cx h t q) (s.heap q) t.length := by
      refine cf_congr _ (fun i hi => ?_)
      have hri : t[i]? = some t[i] := List.getElem?_eq_getElem hi
      generalize t[i]'hi = x at hri
      cases hx : x.cls cx h with
      | pure => right; intro y; unfold eh; rw [hri]; simp only [hx]
      | read => right; intro y; unfold eh; rw [hri]; simp only [hx]
      | chg => left; exact hchg i x hri hx
      | make =>
        by_cases hqx : q = x.pre.next
        · left
          have hip := hmk i x hri hx hqx
          have hlt := hids q hq
          have hn := nextAt d hri
          have hij : i < j := by omega
          rw [decide_eq_true hip]
          rcases d.pairs i j x r hij hri hr.at_ with h' | h'
          · exact hr.pr i h'
          · unfold pairOk at h'
            simp only [hx, hcr, Bool.and_eq_true] at h'
            have := h'.2
            rw [← hqx] at this
            simp at this
            exact absurd hq this
        · right
          intro y
          unfold eh
          rw [hri]
          simp only [hx]
          rw [if_neg hqx]
    rw [h1, cf_prefix _ hp, ← text_heap d q p hp]
  have order : ∀ i i' x x', i < i' → t[i]? = some x → t[i']? = some x' → x.cls cx h = .chg → x'.cls cx h = .chg → D i' = true → D i = true := by
    intro i i' x x' hii hx hx' hcx hcx' hD
    rcases d.pairs i i' x x' hii hx hx' with h' | h'
    · exact hI.out i' x' hD hx' i h'
    · exact absurd hcx (pairOk_cls h' hcx').1
  by_cases hB : ∃ i, i < t.length ∧ (j < i ∧ D i = true ∧ ∃ x, t[i]? = some x ∧ x.cls cx h = .chg)
  · obtain ⟨c, hcn, ⟨hjc, hDc, x, hx, hcx⟩, hmax⟩ := exists_max _ hB
    have hp := pair_after d hI hr hx hjc hDc
    unfold pairOk at hp
    simp only [hcr, hcx, Bool.and_eq_true] at hp
    obtain ⟨r', hr', hv⟩ := resIs_some hp.2
    have hH := (read_ok hc hr').1
    refine ⟨x.H, 0, by rw [hr', hv, ← hH], fun q hq => ?_⟩
    have := core (c + 1) (by omega) (fun i y hy hcy => ?_) q hq (fun i y hy hcy hqy => ?_)
    · rw [(d.rc c x hx).suc] at this; exact this
    · have hi : i < t.length := (List.getElem?_eq_some_iff.1 hy).1
      rcases Nat.lt_trichotomy i c with hic | rfl | hic
      · rw [order i c y x hic hy hx hcy hcx hDc]; simp; omega
      · rw [hDc]; simp
      · cases hD : D i with
        | false => simp; omega
        | true => exact absurd ⟨by omega, hD, y, hy, hcy⟩ (hmax i hic hi)
    · have := hids q hq
      have hn := nextAt d hy
      omega
  · by_cases hC : ∃ i, i < j ∧ D i = false ∧ ∃ x, t[i]? = some x ∧ x.cls cx h = .chg
    · obtain ⟨i0, hi0⟩ := hC
      obtain ⟨c, _, ⟨hcj, hDc, x, hx, hcx⟩, hmin⟩ := exists_min (p := fun i => i < j ∧ D i = false ∧ ∃ x, t[i]? = some x ∧ x.cls cx h = .chg) i0 hi0
      have hp := pair_before d hr hx hcj hDc
      unfold pairOk at hp
      simp only [hcr, hcx, Bool.and_eq_true, List.all_eq_true, decide_eq_true_eq] at hp
      obtain ⟨_, hlt, hres⟩ := hp
      obtain ⟨r', hr', hv⟩ := resIs_some hres
      have hH := (read_ok hc hr').1
      refine ⟨x.pre.heap, 0, by rw [hr', hv, ← hH], fun q hq => ?_⟩
      have := core c (by omega) (fun i y hy hcy => ?_) q hq (fun i y hy hcy hqy => ?_)
      · rw [stAt_of hx] at this; exact this
      · rcases Nat.lt_trichotomy i c with hic | rfl | hic
        · cases hD : D i with
          | true => simp [hic]
          | false => exact absurd ⟨by omega, hD, y, hy, hcy⟩ (hmin i hic)
        · rw [hDc]; simp
        · cases hD : D i with
          | false => simp; omega
          | true =>
            have := order c i x y hic hx hy hcx hcy hD
            rw [hDc] at this; cases this
      · have h1 := hlt q hq
        have hn := nextAt d hy
        have hn2 := nextAt d hx
        omega
    · have he := (rk.yes hw).2
      have hH : r.H = r.pre.heap := (read_ok hc he).1
      refine ⟨r.pre.heap, r.pre.next, by rw [hH] at he; exact he, fun q hq => ?_⟩
      have := core j (by omega) (fun i y hy hcy => ?_) q hq (fun i y hy hcy hqy => ?_)
      · rw [stAt_of hr.at_] at this; exact this
      · have hi : i < t.length := (List.getElem?_eq_some_iff.1 hy).1
        rcases Nat.lt_trichotomy i j with hij | rfl | hij
        · cases hD : D i with
          | true => simp [hij]
          | false => exact absurd ⟨i, hij, hD, y, hy, hcy⟩ hC
        · rw [hr.at_] at hy
          injection hy with hy
          subst hy
          rw [hcr] at hcy
          cases hcy
        · cases hD : D i with
          | false => simp; omega
          | true => exact absurd ⟨i, hi, hij, hD, y, hy, hcy⟩ hB
      · have := hids q hq
        have hn := nextAt d hy
        omega
end
end Go.Lite
end

section
/-
  LITE 59b: a region that draws: whatever the order.
-/
set_option linter.unusedVariables false
set_option linter.unusedSimpArgs false
namespace Go.Lite
open Go Go.RowKit

section
variable {P : Program} {hint : Nat → Hint} {glob : Nat → Option Comp} {nt : Nat} {E0 : Env} {N0 : Nat → Prop} {h : Hint} {callF : CallF} {ops : Array Oper} {s s' : St} {t : List Rec}

/-- Where the walk is when the operations of D are done. -/
def InvD (P : Program) (hint : Nat → Hint) (glob : Nat → Option Comp) (nt : Nat) (E0 : Env) (N0 : Nat → Prop) (h : Hint) (s : St) (t : List Rec) (D : Nat → Bool) (a : Act) (w : World) : Prop :=
  ∃ E N, E.w = w ∧ AtS glob nt E0 N0 E N ⟨slotsD t s t.length D, heapD (mkCx P hint glob) h t s t.length D, 0⟩ a ∧ ∀ q, N q → q < s.next ∨ ∃ i, i < t.length ∧ D i = true ∧ s.next + 8 * i ≤ q ∧ q < s.next + 8 * i + 8

open Classical in
/-- The slots of an operation's own operands. -/
noncomputable def ownSlots (o : Oper) (sl : Slots) : Slots := fun x => if (.tmp x : Operand) ∈ o.op.operands.toList then sl x else .undef

theorem look_of {o : Oper} {x : Nat} (hx : (.tmp x : Operand) ∈ o.op.operands.toList) : x ∈ o.looksAt ops := by
  unfold Oper.looksAt
  exact List.mem_append_left _ (List.mem_filterMap.2 ⟨.tmp x, hx, rfl⟩)

theorem own_operand {cx : Cx} {o : Oper} {sl : Slots} : ∀ x ∈ o.op.operands.toList, operand cx (ownSlots o sl) x = operand cx sl x := by
  intro x hx
  cases x with
  | tmp y => simp only [operand, ownSlots, if_pos hx]
  | _ => rfl

theorem asked_congr {o : Oper} {sl sl' : Slots} (hs : ∀ x ∈ o.looksAt ops, sl x = sl' x) : asked ops sl o = asked ops sl' o := by
  unfold asked
  cases hg : o.guard with
  | none => rfl
  | some p =>
    obtain ⟨j, want⟩ := p
    simp only
    cases hd : (ops[j]?).bind (·.dst) with
    | none => rfl
    | some d =>
      have : sl d = sl' d := hs d (by unfold Oper.looksAt; rw [hg]; simp [hd])
      simp only [this]

open Classical in
theorem step_ok (hp : PHyp P) (hspec : CallSpec P glob callF) (d : Drawn (mkCx P hint glob) h callF nt ops s s' t) {D D' : Nat → Bool} (hI : Ideal t D) {j : Nat} {r : Rec} (hr : Ready t D j r) (hD' : ∀ i, D' i = (D i || decide (i = j))) {Q : Exit → Act → World → Prop} {K : Act → World → Prop} {a : Act} {w : World}
    (hinv : InvD P hint glob nt E0 N0 h s t D a w) (hK : ∀ a' w', InvD P hint glob nt E0 N0 h s t D' a' w' → K a' w') : wpOp P ops Q j K a w := by
  obtain ⟨E, N, rfl, hat, hN⟩ := hinv
  have rk := d.rc j r hr.at_
  have hj : j < t.length := (List.getElem?_eq_some_iff.1 hr.at_).1
  have hnx : r.pre.next = s.next + 8 * j := rk.nx
  have hslots := slots_insert d hI hr hD'
  have hheap := heap_insert d hI hr hD'
  have hlook : ∀ x ∈ r.o.looksAt ops, slotsD t s t.length D x = r.pre.slots x := fun x hx => slots_agree d hI hr hx
  have hask : asked ops (slotsD t s t.length D) r.o = asked ops r.pre.slots r.o := asked_congr hlook
  have hD1 : ∀ i, D i = true → D' i = true := fun i hi => by rw [hD', hi]; rfl
  have hDj : D' j = true := by rw [hD']; simp
  have hN1 : ∀ q, N q → q < s.next ∨ ∃ i, i < t.length ∧ D' i = true ∧ s.next + 8 * i ≤ q ∧ q < s.next + 8 * i + 8 := fun q hq => (hN q hq).imp id (fun ⟨i, a, b, c⟩ => ⟨i, a, hD1 i b, c⟩)
  have hN2 : ∀ q, upto N r.pre.next q → q < s.next ∨ ∃ i, i < t.length ∧ D' i = true ∧ s.next + 8 * i ≤ q ∧ q < s.next + 8 * i + 8 := by
    rintro q (hq | hq)
    · exact hN1 q hq
    · exact .inr ⟨j, hj, hDj, by omega, by omega⟩
  have fresh : ∀ i, i < 8 → ¬ N (r.pre.next + i) := by
    intro i hi hn
    rcases hN _ hn with h1 | ⟨k, h1, h2, h3, h4⟩
    · omega
    · have : k = j := by omega
      subst this
      rw [hr.not] at h2
      cases h2
  have dead : heapD (mkCx P hint glob) h t s t.length D r.pre.next = none := by
    cases hx : heapD (mkCx P hint glob) h t s t.length D r.pre.next with
    | none => rfl
    | some root =>
      have : E.H r.pre.next = some root := by rw [hat.rel.H]; exact hx
      exact absurd (hat.rel.good.names _ _ this).1 (fresh 0 (by omega))
  cases hw : r.w with
  | false =>
    obtain ⟨ha, hv, hH⟩ := rk.no hw
    have hwant : Region.wanted r.o (yielded ops a.tmps) = false := (asked_ok (ops := ops) (o := r.o) hat.rel).2 false (by rw [← ha]; exact hask)
    unfold wpOp
    simp only [rk.o, hwant, Bool.false_eq_true, if_false]
    refine hK _ _ ⟨E, N, rfl, ?_, hN1⟩
    have := hat.skip (next := 0) rk.dst
    have e1 : slotsD t s t.length D' = putD r.o.dst .skip (slotsD t s t.length D) := by rw [hslots, hv]
    have e2 : heapD (mkCx P hint glob) h t s t.length D' = heapD (mkCx P hint glob) h t s t.length D := by
      funext q
      rw [hheap q]
      have hc : r.cls (mkCx P hint glob) h = .pure := by unfold Rec.cls; rw [hw]
      unfold eh
      rw [hr.at_]
      simp only [hc]
    rw [e1, e2]
    exact this
  | true =>
    obtain ⟨ha, he⟩ := rk.yes hw
    have hcr : r.cls (mkCx P hint glob) h = clsOp (mkCx P hint glob) h r.pre.slots r.o := by unfold Rec.cls; rw [hw]
    have hwant : Region.wanted r.o (yielded ops a.tmps) = true := by
      obtain ⟨w1, w2⟩ := asked_ok (ops := ops) (o := r.o) hat.rel
      rcases ha with ha | ha
      · exact w1 (by rw [← ha]; exact hask)
      · exact w2 true (by rw [← ha]; exact hask)
    have hown : ∀ H nx nx' m, evalOp (mkCx P hint glob) h callF r.o ⟨ownSlots r.o r.pre.slots, H, nx⟩ m = evalOp (mkCx P hint glob) h callF r.o ⟨r.pre.slots, H, nx'⟩ m := fun H nx nx' m => evalOp_congr own_operand H nx nx' m
    have hev : ∀ x av, operand (mkCx P hint glob) (ownSlots r.o r.pre.slots) x = some av → (RelV E av (a.eval x) ∧ ∀ q ∈ av.ids, N q) ∧ ∀ q ∈ av.ids, q < s.next + 8 * j := by
      intro x av hx
      cases x with
      | tmp y =>
        simp only [operand, Option.some.injEq] at hx
        subst hx
        unfold ownSlots
        split
        · rename_i hy
          have hl := hlook y (look_of hy)
          have hs := hat.rel.slots y
          have hn := hat.rel.names y
          simp only [hl] at hs hn
          refine ⟨⟨hs, hn⟩, ?_⟩
          have := (d.names j (by omega)).2 y
          rw [stAt_of hr.at_] at this
          exact this
        · exact ⟨⟨trivial, by simp [AV.ids]⟩, by simp [AV.ids]⟩
      | const v =>
        have := operand_rel (P := P) (hint := hint) hat.rel (x := .const v) hx
        obtain ⟨_, h2⟩ := constAV_rel (E := E) hx
        exact ⟨this, by simp [h2]⟩
      | func f =>
        have := operand_rel (P := P) (hint := hint) hat.rel (x := .func f) hx
        refine ⟨this, ?_⟩
        injection hx with hx
        subst hx
        simp [AV.ids, idsAll]
      | global g =>
        have := operand_rel (P := P) (hint := hint) hat.rel (x := .global g) hx
        refine ⟨this, ?_⟩
        simp only [operand] at hx
        split at hx
        · injection hx with hx; subst hx; simp [AV.ids]
        · cases hx
    unfold wpOp
    simp only [rk.o, hwant, if_true]
    left
    -- all but changers: on the heap as it is
    have plain : ∀ H', evalOp (mkCx P hint glob) h callF r.o ⟨r.pre.slots, heapD (mkCx P hint glob) h t s t.length D, 0⟩ r.pre.next = some ⟨r.v, H'⟩ → (∀ q, H' q = eh (mkCx P hint glob) h t q j (heapD (mkCx P hint glob) h t s t.length D q)) → r.o.wp P a E.w K Q := by
      intro H' he' hH'
      refine op_wp (s := ⟨ownSlots r.o r.pre.slots, heapD (mkCx P hint glob) h t s t.length D, 0⟩) hp hspec hat.rel.glob hat.rel.good hat.rel.H (fun x av hx => (hev x av hx).1) fresh (by rw [hown _ 0 0]; exact he') (fun v E' hpost => hK _ _ ⟨E', _, rfl, ?_, hN2⟩)
      have := hat.put (next := 0) hpost (fun q hq => .inl hq) rk.dst
      have e2 : heapD (mkCx P hint glob) h t s t.length D' = H' := by funext q; rw [hheap q, hH' q]
      rw [hslots, e2]
      exact this
    cases hc : clsOp (mkCx P hint glob) h r.pre.slots r.o with
    | pure =>
      refine plain _ ((pure_ok hc he).2 _ _) (fun q => ?_)
      unfold eh
      rw [hr.at_]
      simp only [hcr, hc]
    | make =>
      obtain ⟨X, hX, hall⟩ := make_ok hc he
      have hX : r.H = setO r.pre.next X r.pre.heap := hX
      refine plain _ (hall _ _) (fun q => ?_)
      unfold eh
      rw [hr.at_]
      simp only [hcr, hc]
      by_cases hq : q = r.pre.next
      · rw [if_pos hq, hX, hq]
        cases X with
        | none =>
          simp only [setO]
          rw [dead]
          have n1 := (d.names j (by omega)).1 r.pre.next
          rw [stAt_of hr.at_] at n1
          cases hx : r.pre.heap r.pre.next with
          | none => rfl
          | some root => have := (n1 root hx).1; omega
        | some x => simp only [setO, upd_same]
      · rw [if_neg hq]
        cases X with
        | none => rfl
        | some x => exact upd_other _ _ hq
    | read =>
      obtain ⟨H, nx, he2, hag⟩ := read_agree d hI hr hw hc
      refine plain _ ((read_ok hc he2).2 _ _ hag) (fun q => ?_)
      unfold eh
      rw [hr.at_]
      simp only [hcr, hc]
    | chg =>
      have hcc : r.cls (mkCx P hint glob) h = .chg := hcr.trans hc
      have hge : ∀ q, Later (mkCx P hint glob) h t j q → s.next + 8 * (j + 1) ≤ q := by
        rintro q ⟨k, x, hk, hx, _, rfl⟩
        have := nextAt d hx
        omega
      obtain ⟨X, hXi⟩ : ∃ X : Nat → Prop, ∀ q, X q ↔ (Later (mkCx P hint glob) h t j q ∧ N q) := ⟨_, fun _ => Iff.rfl⟩
      have hXdead : ∀ q, Later (mkCx P hint glob) h t j q → ¬ N q → heapD (mkCx P hint glob) h t s t.length D q = none := by
        intro q _ hn
        cases hx : heapD (mkCx P hint glob) h t s t.length D q with
        | none => rfl
        | some root =>
          have : E.H q = some root := by rw [hat.rel.H]; exact hx
          exact absurd (hat.rel.good.names _ _ this).1 hn
      have npre := (d.names j (by omega)).1
      rw [stAt_of hr.at_] at npre
      have hpre : ∀ q, Later (mkCx P hint glob) h t j q → r.pre.heap q = none := by
        intro q hl
        cases hx : r.pre.heap q with
        | none => rfl
        | some root => have h1 := (npre q root hx).1; have h2 := hge q hl; omega
      have nsuc := (d.names (j + 1) (by omega)).1
      rw [rk.suc] at nsuc
      have hsuc : ∀ q, Later (mkCx P hint glob) h t j q → r.H q = none := by
        intro q hl
        cases hx : r.H q with
        | none => rfl
        | some root => have h1 := (nsuc q root hx).1; have h2 := hge q hl; omega
      have hEH : ∀ q, E.H q = heapD (mkCx P hint glob) h t s t.length D q := fun q => by rw [hat.rel.H]
      have hXr : ∀ q root, ¬ X q → E.H q = some root → ∀ q' ∈ root.ids, ¬ X q' := by
        intro q root hx hq q' hq' hx'
        rw [hEH] at hq
        have hnl : ¬ Later (mkCx P hint glob) h t j q := fun hl => by
          by_cases hn : N q
          · exact hx ((hXi q).2 ⟨hl, hn⟩)
          · rw [hXdead q hl hn] at hq; cases hq
        rw [chg_agree d hI hr hcc hnl] at hq
        have h1 := (npre q root hq).2 q' hq'
        have h2 := hge q' ((hXi q').1 hx').1
        omega
      obtain ⟨hgood, hrel⟩ := hide_good hat.rel.good hXr
      have hHh : (E.hide X).H = r.pre.heap := by
        funext q
        by_cases hx : X q
        · rw [hide_Hx hx, hpre q ((hXi q).1 hx).1]
        · rw [hide_H hx, hEH]
          by_cases hl : Later (mkCx P hint glob) h t j q
          · rw [hpre q hl]; exact hXdead q hl (fun hn => hx ((hXi q).2 ⟨hl, hn⟩))
          · exact chg_agree d hI hr hcc hl
      have hids : ∀ q, N q → q < s.next + 8 * j → N q ∧ ¬ X q := fun q hn hlt => ⟨hn, fun hx => by have := hge q ((hXi q).1 hx).1; omega⟩
      have := op_wp (s := ⟨ownSlots r.o r.pre.slots, r.pre.heap, 0⟩) (E := E.hide X) (a := a) (Q := Q) (K := K) hp hspec (fun g c hg => hrel _ _ (by simp [AV.ids]) (hat.rel.glob g c hg)) hgood hHh
        (fun x av hx => by
          obtain ⟨⟨h1, h2⟩, h3⟩ := hev x av hx
          exact ⟨hrel av _ (fun q hq => hids q (h2 q hq) (h3 q hq)) h1, fun q hq => hids q (h2 q hq) (h3 q hq)⟩)
        (fun i hi hn => fresh i hi hn.1) (by rw [hown _ 0 r.pre.next]; exact he) (fun v E' hpost => by
          obtain ⟨E3, hw3, hp3⟩ := unhide hat.rel.good (fun q hq => ((hXi q).1 hq).2) fresh hpost
          rw [← hw3]
          refine hK _ _ ⟨E3, _, rfl, ?_, hN2⟩
          have := hat.put (next := 0) hp3 (fun q hq => .inl hq) rk.dst
          have e2 : heapD (mkCx P hint glob) h t s t.length D' = fun q => if X q then E.H q else r.H q := by
            funext q
            rw [hheap q]
            unfold eh
            rw [hr.at_]
            simp only [hcc]
            by_cases hl : Later (mkCx P hint glob) h t j q
            · rw [if_pos hl]
              by_cases hn : N q
              · rw [if_pos ((hXi q).2 ⟨hl, hn⟩), hEH]
              · rw [if_neg (fun hx : X q => hn ((hXi q).1 hx).2), hXdead q hl hn, hsuc q hl]
            · rw [if_neg hl, if_neg (fun hx : X q => hl ((hXi q).1 hx).1)]
          rw [hslots, e2]
          exact this)
      exact this

/-- A region that draws: whatever the order is. -/
theorem any_ok (hp : PHyp P) (hspec : CallSpec P glob callF) (d : Drawn (mkCx P hint glob) h callF nt ops s s' t) {Q : Exit → Act → World → Prop} (hQ : ∀ a' w', At glob nt E0 N0 s' a' w' → Q .normal a' w') : ∀ (fuel : Nat) (listed : Array Bool) (a : Act) (w : World), listed.size = ops.size → cnt (fun i => listed.getD i false) t.length ≤ fuel →
    Ideal t (fun i => listed.getD i false) → InvD P hint glob nt E0 N0 h s t (fun i => listed.getD i false) a w → wpAny P .any ops Q fuel listed a w := by
  have done : ∀ (listed : Array Bool) (a : Act) (w : World), (∀ i, i < t.length → listed.getD i false = true) → InvD P hint glob nt E0 N0 h s t (fun i => listed.getD i false) a w → Q .normal a w := by
    intro listed a w hall ⟨E, N, hw, hat, hN⟩
    refine hQ a w ⟨E, N, hw, ?_, fun q hq hn => ?_⟩
    · have e1 : slotsD t s t.length (fun i => listed.getD i false) = s'.slots := by
        funext x
        have h1 : slotsD t s t.length (fun i => listed.getD i false) x = cf (fun _ => true) (es t x) (s.slots x) t.length := cf_congr _ (fun i hi => .inl (hall i hi))
        rw [h1, ← text_slots d x t.length (Nat.le_refl _)]
        unfold stAt
        rw [List.getElem?_eq_none (Nat.le_refl _)]
      have e2 : heapD (mkCx P hint glob) h t s t.length (fun i => listed.getD i false) = s'.heap := by
        funext q
        have h1 : heapD (mkCx P hint glob) h t s t.length (fun i => listed.getD i false) q = cf (fun _ => true) (eh (mkCx P hint glob) h t q) (s.heap q) t.length := cf_congr _ (fun i hi => .inl (hall i hi))
        rw [h1, ← text_heap d q t.length (Nat.le_refl _)]
        unfold stAt
        rw [List.getElem?_eq_none (Nat.le_refl _)]
      rw [e1, e2] at hat
      exact ⟨⟨hat.rel.H, hat.rel.good, hat.rel.slots, hat.rel.names, hat.rel.glob⟩, hat.step, hat.size, hat.defers⟩
    · have := d.next
      have hlen := d.len
      rcases hN q hn with h1 | ⟨i, h1, _, _, h4⟩ <;> omega
  have readyMem : ∀ (listed : Array Bool), listed.size = ops.size → ∀ i, i ∈ Region.ready .any ops listed ↔ i < ops.size ∧ listed.getD i false = false ∧ ∀ o, ops[i]? = some o → ∀ e ∈ o.after.toList, Go.Region.binds .any e = true → listed.getD e.on false = true := by
    intro listed hsz i
    unfold Region.ready
    rw [List.mem_filter, List.mem_range]
    constructor
    · rintro ⟨hi, hc⟩
      have ho : ops[i]? = some ops[i] := Array.getElem?_eq_getElem hi
      simp only [Bool.and_eq_true, Bool.not_eq_true', ho, Option.map_some, Option.getD_some, Array.all_eq_true'] at hc
      refine ⟨hi, ?_, fun o ho' e he hb => ?_⟩
      · have := hc.1
        rw [Array.getD_eq_getD_getElem?] at this ⊢
        rw [Array.getElem?_eq_getElem (by omega)] at this ⊢
        exact this
      · rw [ho] at ho'
        injection ho' with ho'
        subst ho'
        have := hc.2 e (by simpa using he)
        simpa [hb] using this
    · rintro ⟨hi, h1, h2⟩
      have ho : ops[i]? = some ops[i] := Array.getElem?_eq_getElem hi
      refine ⟨hi, ?_⟩
      simp only [Bool.and_eq_true, Bool.not_eq_true', ho, Option.map_some, Option.getD_some, Array.all_eq_true']
      refine ⟨?_, fun e he => ?_⟩
      · rw [Array.getD_eq_getD_getElem?] at h1 ⊢
        rw [Array.getElem?_eq_getElem (by omega)] at h1 ⊢
        exact h1
      · cases hb : Go.Region.binds .any e with
        | false => rfl
        | true => simpa [hb] using h2 _ ho e (by simpa using he) hb
  -- what is ready
  have ready_of : ∀ (listed : Array Bool) i, listed.size = ops.size → Ideal t (fun i => listed.getD i false) → i ∈ Region.ready .any ops listed → ∃ r, Ready t (fun i => listed.getD i false) i r := by
    intro listed i hsz hI hi
    obtain ⟨h1, h2, h3⟩ := (readyMem listed hsz i).1 hi
    have hr : t[i]? = some (t[i]'(by rw [d.len]; exact h1)) := List.getElem?_eq_getElem (by rw [d.len]; exact h1)
    generalize (t[i]'(by rw [d.len]; exact h1)) = r at hr
    have rk := d.rc i r hr
    refine ⟨r, hr, h2, fun k hk => ?_⟩
    obtain ⟨e, he, hb, hk'⟩ := rk.prin k hk
    have he1 := h3 r.o rk.o e he hb
    rcases hk' with rfl | ⟨r', hr', hk'⟩
    · exact he1
    · exact hI.out _ r' he1 hr' k hk'
  have none_ready : ∀ (listed : Array Bool), listed.size = ops.size → Region.ready .any ops listed = [] → ∀ i, i < t.length → listed.getD i false = true := by
    intro listed hsz hempty i
    induction i using Nat.strongRecOn with
    | _ i ih =>
      intro hi
      cases hD : listed.getD i false with
      | true => rfl
      | false =>
        have hr : t[i]? = some t[i] := List.getElem?_eq_getElem hi
        have rk := d.rc i _ hr
        have : i ∈ Region.ready .any ops listed := (readyMem listed hsz i).2 ⟨by rw [← d.len]; exact hi, hD, fun o ho e he hb => by
          rw [rk.o] at ho
          injection ho with ho
          subst ho
          obtain ⟨hlt, _⟩ := rk.pr e he hb
          exact ih _ hlt (by omega)⟩
        rw [hempty] at this
        cases this
  intro fuel
  induction fuel with
  | zero =>
    intro listed a w hsz hcnt hI hinv
    have hall := cnt_zero t.length (by omega : cnt (fun i => listed.getD i false) t.length = 0)
    refine ⟨?_, done listed a w hall hinv⟩
    cases hrd : Region.ready .any ops listed with
    | nil => rfl
    | cons i l =>
      obtain ⟨h1, h2, _⟩ := (readyMem listed hsz i).1 (by rw [hrd]; simp)
      have := hall i (by rw [d.len]; exact h1)
      rw [h2] at this
      cases this
  | succ fuel ih =>
    intro listed a w hsz hcnt hI hinv
    refine ⟨fun hempty => done listed a w (none_ready listed hsz hempty) hinv, fun i hi => ?_⟩
    obtain ⟨r, hr⟩ := ready_of listed i hsz hI hi
    have hil := ((readyMem listed hsz i).1 hi).1
    have hit : i < t.length := by rw [d.len]; exact hil
    have hD' : ∀ k, (listed.setIfInBounds i true).getD k false = (listed.getD k false || decide (k = i)) := by
      intro k
      rw [Array.getD_eq_getD_getElem?, Array.getD_eq_getD_getElem?]
      by_cases hk : k = i
      · subst hk
        rw [Array.getElem?_setIfInBounds_self_of_lt (by omega)]
        simp
      · rw [Array.getElem?_setIfInBounds_ne (Ne.symm hk)]
        simp [hk]
    refine step_ok hp hspec d hI hr hD' hinv (fun a' w' hinv' => ih _ a' w' (by simp [hsz]) ?_ ⟨fun k x hk hx q hq => ?_⟩ hinv')
    · have := cnt_insert (D := fun i => listed.getD i false) (D' := fun k => (listed.setIfInBounds i true).getD k false) (j := i) hr.not hD' t.length hit
      omega
    · simp only [hD', Bool.or_eq_true, decide_eq_true_eq] at hk ⊢
      rcases hk with hk | rfl
      · exact .inl (hI.out k x hk hx q hq)
      · have hx' := hr.at_
        rw [hx] at hx'
        injection hx' with hx'
        subst hx'
        exact .inl (hr.pr q hq)

theorem drawn_ok (hp : PHyp P) (hspec : CallSpec P glob callF) {id : Nat} {Q : Exit → Act → World → Prop} {a : Act} {w : World}
    (he : evalDrawn (mkCx P hint glob) h callF nt ops s = some s') (hat : At glob nt E0 N0 s a w) (hQ : ∀ a' w', At glob nt E0 N0 s' a' w' → Q .normal a' w') : (Code.region id ops true).wp P Q a w := by
  unfold evalDrawn at he
  split at he
  · rename_i t s1 htr
    obtain ⟨hpairs, he⟩ := chk_some he
    injection he with he
    subst he
    obtain ⟨r1, r2, r3, r4⟩ := traceOps_ok (s0 := s) ops.toList 0 [] s s1 t [] htr rfl rfl rfl (by omega)
    have hlen : t.length = ops.size := by rw [r1, Array.length_toList]
    have hrc : ∀ k r, t[k]? = some r → RecOk (mkCx P hint glob) h callF nt ops s s1 t k r := fun k r hk => by
      have := r4 k r hk
      rwa [Nat.zero_add, List.nil_append] at this
    have hat' : At glob nt E0 N0 s a { w with drawn := w.drawn + 1 } := by
      obtain ⟨E, N, rfl, h1, h2⟩ := hat
      have hd := drew_step h1.rel.good
      refine ⟨⟨E.S, E.w.drew, E.H, E.G, E.F⟩, N, rfl, ⟨⟨h1.rel.H, hd.good, fun x => (h1.rel.slots x).ext hd.ext _ _ (h1.rel.names x), h1.rel.names, fun g c hg => (h1.rel.glob g c hg).ext hd.ext _ _ (by simp [AV.ids])⟩, h1.step.trans hd, h1.size, h1.defers⟩, h2⟩
    have htext := text_run hp hspec hat' r2 hrc
    have d : Drawn (mkCx P hint glob) h callF nt ops s s1 t := by
      refine ⟨hrc, hlen, r2, by rw [r3]; simp, fun i j x y hij hx hy => ?_, fun i hi => ?_⟩
      · have := pairsOk_at t 0 hpairs i j x y hij hx hy
        rwa [Nat.zero_add] at this
      · obtain ⟨E, N, a', h1, h2⟩ := htext i hi
        refine ⟨fun r root hr => ?_, fun x q hq => h2 q (h1.rel.names x q hq)⟩
        obtain ⟨n1, n2⟩ := h1.rel.good.names r root (by rw [h1.rel.H]; exact hr)
        exact ⟨h2 r n1, fun q hq => h2 q (n2 q hq)⟩
    refine wp_region_any hp.mixed ?_
    have hfalse : ∀ i, (Array.replicate ops.size false).getD i false = false := by
      intro i
      rw [Array.getD_eq_getD_getElem?, Array.getElem?_replicate]
      split <;> rfl
    refine any_ok hp hspec d hQ ops.size _ a _ (by simp) ?_ ⟨fun i r hi => by simp only [hfalse] at hi; cases hi⟩ ?_
    · have : ∀ m, cnt (fun i => (Array.replicate ops.size false).getD i false) m ≤ m := by
        intro m
        induction m with
        | zero => exact Nat.le_refl _
        | succ m ih => simp only [cnt]; split <;> omega
      exact Nat.le_trans (this _) (by omega)
    · obtain ⟨E, N, hw, h1, h2⟩ := hat'
      refine ⟨E, N, hw, ?_, fun q hq => .inl ?_⟩
      · have none : ∀ {α : Type} (D : Nat → Bool) (e : Nat → α → α) (x : α) m, (∀ i, D i = false) → cf D e x m = x := by
          intro α D e x m hD
          induction m with
          | zero => rfl
          | succ m ih => simp [cf, hD, ih]
        have e1 : slotsD t s t.length (fun i => (Array.replicate ops.size false).getD i false) = s.slots := by funext x; exact none _ _ _ _ hfalse
        have e2 : heapD (mkCx P hint glob) h t s t.length (fun i => (Array.replicate ops.size false).getD i false) = s.heap := by funext x; exact none _ _ _ _ hfalse
        rw [e1, e2]
        exact ⟨⟨h1.rel.H, h1.rel.good, h1.rel.slots, h1.rel.names, h1.rel.glob⟩, h1.step, h1.size, h1.defers⟩
      · rcases Nat.lt_or_ge q s.next with h' | h'
        · exact h'
        · exact absurd hq (h2 q h')
  · cases he
end
end Go.Lite
end

section
/-
  LITE 59c: at a cut all is as it was, under other names.
-/
set_option linter.unusedVariables false
set_option linter.unusedSimpArgs false
namespace Go.Lite
open Go Go.RowKit

theorem slotsOf_get {f : Nat → AV} : ∀ (l : List Nat) (t : Nat), slotsOf (l.map fun t => (t, f t)) t = f t ∨ slotsOf (l.map fun t => (t, f t)) t = .undef
  | [], t => .inr rfl
  | a :: l, t => by
    simp only [List.map_cons, slotsOf]
    by_cases h : t = a
    · subst h; rw [upd_same]; exact .inl rfl
    · rw [upd_other _ _ h]; exact slotsOf_get l t

section
variable {glob : Nat → Option Comp} {nt : Nat} {E0 : Env} {N0 : Nat → Prop}

theorem canon_at {m : Nat} {live : List Nat} {s s' : St} {a : Act} {w : World} (hm : ∀ j, N0 j → j < m) (h : canon m live s = some s') (hat : At glob nt E0 N0 s a w) : At glob nt E0 N0 s' a w := by
  obtain ⟨E, N, rfl, hs, hfresh⟩ := hat
  unfold canon at h
  split at h
  · cases h
  · rename_i ids hids
    simp only [Option.some.injEq] at h
    obtain ⟨hnd, _, halive⟩ := reach_spec _ _ _ _ hids (by simp)
    generalize hnew : ids.filter (fun r => decide (m ≤ r)) = new at h
    have hnd2 : new.Nodup := by rw [← hnew]; exact hnd.filter _
    have hH0 : E.H = s.heap := hs.rel.H
    rw [← hH0] at h halive
    have hmem : ∀ r ∈ new, m ≤ r ∧ ∃ root, E.H r = some root := by
      intro r hr
      rw [← hnew, List.mem_filter] at hr
      exact ⟨of_decide_eq_true hr.2, (halive r hr.1).resolve_left (by simp)⟩
    generalize hnm : downName E.H m new = names at h
    have nm : ∀ r j, names r = some j → (∃ root, E.H r = some root) ∧ ((r < m ∧ j = r) ∨ (m ≤ r ∧ m ≤ j ∧ new[j - m]? = some r)) := by
      intro r j h
      rw [← hnm] at h
      unfold downName at h
      split at h
      · cases h
      · rename_i root hroot
        refine ⟨⟨root, hroot⟩, ?_⟩
        split at h
        · rename_i hlt
          injection h with h
          exact .inl ⟨of_decide_eq_true hlt, h.symm⟩
        · rename_i hlt
          have hlt := of_decide_eq_false hlt
          split at h
          · rename_i i hi
            injection h with h
            subst h
            have := pos?_some hi
            exact .inr ⟨by omega, by omega, by rw [show m + i - m = i by omega]; exact this⟩
          · cases h
    have nmlt : ∀ r root, r < m → E.H r = some root → names r = some r := by
      intro r root hlt hr
      rw [← hnm]
      simp only [downName, hr, decide_eq_true hlt]
    have nmnew : ∀ i r, new[i]? = some r → names r = some (m + i) := by
      intro i r hi
      obtain ⟨h1, root, h2⟩ := hmem r (List.mem_of_getElem? hi)
      rw [← hnm]
      simp only [downName, h2, decide_eq_false (show ¬ r < m by omega), pos?_of hnd2 hi]
    generalize hroots : (List.range m).map (fun r => (E.H r).map (Root.ren names)) ++ new.map (fun r => (E.H r).map (Root.ren names)) = roots2 at h
    let G2 : Nat → Option GRoot := fun j => if j < m then (match E.H j with | none => none | some _ => E.G j) else (new[j - m]?).bind E.G
    let E2 : Env := { S := fun b => b < E.w.heap.size ∧ ¬ Own G2 b ∧ ¬ E.F b, w := E.w, H := heapFrom 0 roots2, G := G2, F := E.F }
    have rlen : roots2.length = m + new.length := by simp [← hroots]
    have rlt : ∀ j, j < m → roots2[j]? = some ((E.H j).map (Root.ren names)) := by
      intro j hj
      rw [← hroots]
      rw [List.getElem?_append_left (by simpa using hj), List.getElem?_map, List.getElem?_range hj]
      rfl
    have rge : ∀ j, m ≤ j → roots2[j]? = (new[j - m]?).map (fun r => (E.H r).map (Root.ren names)) := by
      intro j hj
      rw [← hroots]
      rw [List.getElem?_append_right (by simpa using hj), List.getElem?_map]
      simp
    have hH : ∀ r j, names r = some j → E2.H j = (E.H r).map (Root.ren names) := by
      intro r j h
      obtain ⟨⟨root, hroot⟩, h | ⟨h1, h2, h3⟩⟩ := nm r j h
      · obtain ⟨hlt, rfl⟩ := h
        show heapFrom 0 roots2 j = _
        rw [heapFrom_zero, rlt j hlt, hroot]
        rfl
      · show heapFrom 0 roots2 j = _
        rw [heapFrom_zero, rge j h2, h3, Option.map_some, hroot]
        rfl
    have hG : ∀ r j, names r = some j → E2.G j = E.G r := by
      intro r j h
      obtain ⟨⟨root, hroot⟩, h | ⟨h1, h2, h3⟩⟩ := nm r j h
      · obtain ⟨hlt, rfl⟩ := h
        show (if j < m then (match E.H j with | none => none | some _ => E.G j) else (new[j - m]?).bind E.G) = _
        rw [if_pos hlt, hroot]
      · show (if j < m then (match E.H j with | none => none | some _ => E.G j) else (new[j - m]?).bind E.G) = _
        rw [if_neg (by omega), h3]
        rfl
    have hRen : Ren E E2 names := ⟨rfl, hH, hG⟩
    have hown : ∀ b, Own G2 b → Own E.G b := by
      rintro b ⟨j, gr, hgr, hb⟩
      simp only [G2] at hgr
      split at hgr
      · split at hgr
        · cases hgr
        · exact ⟨j, gr, hgr, hb⟩
      · obtain ⟨r, _, hgr⟩ := Option.bind_eq_some_iff.1 hgr
        exact ⟨r, gr, hgr, hb⟩
    have hg : Good E N := hs.rel.good
    have hSS : ∀ b, E.S b → E2.S b := fun b hb => by
      obtain ⟨h1, h2, h3⟩ := (hg.S b).1 hb
      exact ⟨h1, fun ho => h2 (hown b ho), h3⟩
    have hgood : Good E2 (· < m + new.length) := by
      refine hRen.good hg (fun r j root _ _ => .inl hSS) (fun r r' j h h' => ?_) (fun j => ?_) (fun r j h => ?_) (fun b => Iff.rfl) (fun b hf => ?_)
      · obtain ⟨_, h | ⟨h1, h2, h3⟩⟩ := nm r j h
        · obtain ⟨_, h' | ⟨h1', h2', h3'⟩⟩ := nm r' j h'
          · omega
          · omega
        · obtain ⟨_, h' | ⟨h1', h2', h3'⟩⟩ := nm r' j h'
          · omega
          · rw [h3] at h3'; injection h3'
      · by_cases hj : j < m
        · cases hr : E.H j with
          | none =>
            refine .inr ⟨?_, ?_⟩
            · show heapFrom 0 roots2 j = none
              rw [heapFrom_zero, rlt j hj, hr]; rfl
            · show (if j < m then (match E.H j with | none => none | some _ => E.G j) else (new[j - m]?).bind E.G) = _
              rw [if_pos hj, hr]
          | some root => exact .inl ⟨j, nmlt j root hj hr⟩
        · cases hr : new[j - m]? with
          | none =>
            refine .inr ⟨?_, ?_⟩
            · show heapFrom 0 roots2 j = none
              rw [heapFrom_zero, rge j (by omega), hr]; rfl
            · show (if j < m then (match E.H j with | none => none | some _ => E.G j) else (new[j - m]?).bind E.G) = _
              rw [if_neg hj, hr]; rfl
          | some r => exact .inl ⟨r, by have := nmnew _ r hr; rwa [show m + (j - m) = j by omega] at this⟩
      · obtain ⟨_, h | ⟨h1, h2, h3⟩⟩ := nm r j h
        · omega
        · have := (List.getElem?_eq_some_iff.1 h3).1
          omega
      · obtain ⟨h1, h2⟩ := hg.F b hf
        exact ⟨h1, fun ho => h2 (hown b ho)⟩
    have hx2 : Ext (· < m) E E2 := by
      refine ⟨fun b hb => ⟨hSS b hb, rfl⟩, fun r hr => ?_⟩
      cases hroot : E.H r with
      | none =>
        have : E2.H r = none := by show heapFrom 0 roots2 r = none; rw [heapFrom_zero, rlt r hr, hroot]; rfl
        rw [this]
        trivial
      | some root =>
        have hnr := nmlt r root hr hroot
        rw [hH r r hnr, hG r r hnr, hroot]
        refine ExtR.ren_r (ExtR.refl _ _ (fun fl k xs ver hole hr => ?_))
        obtain ⟨A, c, els, hG, _⟩ := hg.arr r fl k xs ver hole (hroot.trans hr)
        exact ⟨_, hG, rfl⟩
    have hval : ∀ t, slotsOf (live.map fun t => (t, (s.slots t).ren names)) t = (s.slots t).ren names ∨ slotsOf (live.map fun t => (t, (s.slots t).ren names)) t = .undef := slotsOf_get (f := fun t => (s.slots t).ren names) live
    subst h
    refine ⟨E2, (· < m + new.length), rfl, ⟨⟨rfl, hgood, fun t => ?_, fun t q hq => ?_, fun g c hgc => ?_⟩, ?_, hs.size, hs.defers⟩, fun q hq hlt => absurd hq (Nat.not_le.2 hlt)⟩
    · show RelV E2 (slotsOf (live.map fun t => (t, (s.slots t).ren names)) t) _
      rcases hval t with h | h
      · rw [h]; exact RelV.ren hRen _ _ (.inl hSS) (hs.rel.slots t)
      · rw [h]; exact trivial
    · have hq : q ∈ (slotsOf (live.map fun t => (t, (s.slots t).ren names)) t).ids := hq
      rcases hval t with h | h
      · rw [h] at hq
        obtain ⟨r, _, hr⟩ := ren_ids _ q hq
        obtain ⟨_, h | ⟨h1, h2, h3⟩⟩ := nm r q hr
        · show q < m + new.length
          omega
        · have := (List.getElem?_eq_some_iff.1 h3).1
          show q < m + new.length
          omega
      · rw [h] at hq; cases hq
    · exact RelV.ren hRen (.at c.k c.d) _ (.inl hSS) (hs.rel.glob g c hgc)
    · have st := hs.step
      exact ⟨hgood, st.ext.trans ⟨hx2.stay, fun r hr => hx2.roots r (hm r hr)⟩ (fun _ h => h), st.tr, fun b hb hlt => st.own b (hown b hb) hlt, fun q hq => Nat.lt_of_lt_of_le (hm q hq) (Nat.le_add_right m _), st.F⟩

theorem rowOf_ok {E : Env} {n n' : Nat → Prop} {rows : List (TypeId × Fl × K)} {m : Nat} {v v' : AV} {H' : Heap} {x : Value} (hg : Good E n) (hm : ¬ n m) (hmn : (∀ q, n q → n' q) ∧ n' m) (hv : RelV E v x) (hn : ∀ q ∈ v.ids, n q) (h : rowOf rows E.H m v = (v', H')) :
    ∃ E', Step1 E n E' n' ∧ E'.H = H' ∧ E'.w = E.w ∧ RelV E' v' x ∧ (∀ q ∈ v'.ids, n' q) ∧ ∀ q, q ≠ m → E'.H q = E.H q ∧ E'.G q = E.G q := by
  have same : (v, E.H) = (v', H') → ∃ E', Step1 E n E' n' ∧ E'.H = H' ∧ E'.w = E.w ∧ RelV E' v' x ∧ (∀ q ∈ v'.ids, n' q) ∧ ∀ q, q ≠ m → E'.H q = E.H q ∧ E'.G q = E.G q := by
    intro h
    injection h with h1 h2
    subst h1 h2
    exact ⟨E, Step1.refl hg hmn.1, rfl, rfl, hv, fun q hq => hmn.1 q (hn q hq), fun _ _ => ⟨rfl, rfl⟩⟩
  unfold rowOf at h
  split at h
  · split at h
    · rename_i u fl k _
      injection h with h1 h2
      subst h1 h2
      obtain rfl : x = .slice none 0 0 := hv
      let E' : Env := { S := fun b => b < E.w.heap.size ∧ ¬ Own (upd m (some (.arr (.row k.sz none 0 []))) E.G) b ∧ ¬ E.F b, F := E.F, w := E.w, H := upd m (some (.arr fl k [] 0 none)) E.H, G := upd m (some (.arr (.row k.sz none 0 []))) E.G }
      have hb : (GRoot.arr (.row k.sz none 0 [])).blocks = [] := rfl
      have hc : Chg (· = m) n E E' := by
        refine ⟨fun q hq => upd_other _ _ hq, fun q hq => upd_other _ _ hq, Nat.le_refl _, rfl, rfl, rfl, fun b _ _ => rfl, fun b => Iff.rfl, ?_, fun d hd hlt => absurd (hd ▸ hlt) hm, rfl⟩
        rintro d gr rfl hgr b hb'
        simp only [E', upd_same, Option.some.injEq] at hgr
        subst hgr
        rw [hb] at hb'
        cases hb'
      have hgood : Good E' n' := by
        refine hc.good hg hmn.1 ?_ ?_ ?_ ?_ ?_
        · rintro d root rfl h
          simp only [E', upd_same, Option.some.injEq] at h
          subst h
          exact ⟨.arr (.row k.sz none 0 []), by simp [E', upd_same], none, 0, [], rfl, ⟨⟨by simp, Nat.le_refl _, .inl rfl⟩, trivial⟩, trivial⟩
        · rintro d rfl h; simp [E', upd_same] at h
        · rintro d d' g g' rfl rfl hne; exact absurd rfl hne
        · rintro d g rfl h
          simp only [E', upd_same, Option.some.injEq] at h
          subst h
          rw [hb]
          simp
        · rintro d root rfl h
          simp only [E', upd_same, Option.some.injEq] at h
          subst h
          exact ⟨hmn.2, by simp [Root.ids]⟩
      have hp := (hc.step hg hmn.1 hgood)
      refine ⟨E', hp, rfl, rfl, ?_, by simpa [AV.ids] using hmn.2, fun q hq => ⟨upd_other _ _ hq, upd_other _ _ hq⟩⟩
      refine ⟨Int.le_refl _, Int.le_refl _, ⟨none, 0, rfl, Nat.le_refl _, .inl rfl⟩, ?_⟩
      simp only [E', upd_same]
      refine ⟨⟨fun h => absurd rfl h, fun _ _ => ⟨[], _, rfl, rfl⟩⟩, fun _ q R hq hR => ?_⟩
      simp only [tpath, Option.some.injEq] at hq
      subst hq
      simp only [T.getRow, Option.some.injEq] at hR
      subst hR
      exact ⟨by simp, none, 0, rfl, rfl, .inl rfl⟩
    · exact same h
  · exact same h

def plus (N : Nat → Prop) (m : Nat) : Nat → Prop := fun q => N q ∨ q = m
theorem rowsAll_ok {rows : List (TypeId × Fl × K)} : ∀ (l : List AV) (vs : List Value) (E : Env) (N : Nat → Prop) (m : Nat) (l' : List AV) (H' : Heap) (m' : Nat), Good E N → (∀ q, m ≤ q → ¬ N q) → All2 (RelV E) l vs → (∀ q ∈ idsAll l, N q) → rowsAll rows l E.H m = (l', H', m') →
    ∃ E' N', Step1 E N E' N' ∧ E'.H = H' ∧ E'.w = E.w ∧ All2 (RelV E') l' vs ∧ (∀ q ∈ idsAll l', N' q) ∧ (∀ q, m' ≤ q → ¬ N' q) ∧ m ≤ m' ∧ ∀ q, q < m → E'.H q = E.H q ∧ E'.G q = E.G q
  | [], [], E, N, m, l', H', m', hg, hf, _, _, h => by
    injection h with h1 h2
    injection h2 with h2 h3
    subst h1 h2 h3
    exact ⟨E, N, Step1.refl hg (fun _ h => h), rfl, rfl, trivial, by simp [idsAll], hf, Nat.le_refl _, fun _ _ => ⟨rfl, rfl⟩⟩
  | [], _ :: _, _, _, _, _, _, _, _, _, hv, _, _ => hv.elim
  | _ :: _, [], _, _, _, _, _, _, _, _, hv, _, _ => hv.elim
  | v :: l, x :: vs, E, N, m, l', H', m', hg, hf, hv, hn, h => by
    simp only [rowsAll] at h
    have hn1 : ∀ q ∈ v.ids, N q := fun q hq => hn q (by simp [idsAll, hq])
    have hn2 : ∀ q ∈ idsAll l, N q := fun q hq => hn q (by simp [idsAll, hq])
    obtain ⟨E1, s1, hH1, w1, r1, i1, k1⟩ := rowOf_ok (n' := plus N m) (rows := rows) (v' := (rowOf rows E.H m v).1) (H' := (rowOf rows E.H m v).2) hg (hf m (Nat.le_refl _)) ⟨fun q hq => .inl hq, .inr rfl⟩ hv.1 hn1 rfl
    rw [← hH1] at h
    obtain ⟨E2, N2, s2, hH2, w2, r2, i2, f2, le2, k2⟩ := rowsAll_ok l vs E1 (plus N m) (m + 1) _ _ _ s1.good (fun q hq h => by rcases h with h | h; exact hf q (by omega) h; omega) (relAll_ext s1.ext hn2 hv.2) (fun q hq => .inl (hn2 q hq)) rfl
    injection h with h1 h2
    injection h2 with h2 h3
    subst h1 h2 h3
    refine ⟨E2, N2, s1.trans s2, hH2, w2.trans w1, ⟨r1.ext s2.ext _ _ i1, r2⟩, fun q hq => ?_, f2, by omega, fun q hq => ?_⟩
    · simp only [idsAll, List.mem_append] at hq
      exact hq.elim (fun h => s2.le q (i1 q h)) (i2 q)
    · have := k2 q (by omega)
      have h' := k1 q (by omega)
      exact ⟨this.1.trans h'.1, this.2.trans h'.2⟩

theorem rowsSlots_at {rows : List (TypeId × Fl × K)} : ∀ (live : List Nat) (s : St) (a : Act) (w : World), At glob nt E0 N0 s a w → At glob nt E0 N0 (rowsSlots rows live s) a w
  | [], s, a, w, hat => hat
  | t :: l, s, a, w, hat => by
    obtain ⟨E, N, rfl, hs, hf⟩ := hat
    simp only [rowsSlots]
    refine rowsSlots_at l _ a _ ?_
    have hH := hs.rel.H
    obtain ⟨E1, s1, hH1, w1, r1, i1, k1⟩ := rowOf_ok (n' := plus N s.next) (rows := rows) (v' := (rowOf rows E.H s.next (s.slots t)).1) (H' := (rowOf rows E.H s.next (s.slots t)).2) hs.rel.good (hf s.next (Nat.le_refl _)) ⟨fun q hq => .inl hq, .inr rfl⟩ (hs.rel.slots t) (hs.rel.names t) rfl
    rw [hH] at hH1 r1 i1
    refine ⟨E1, plus N s.next, w1, ⟨⟨hH1, s1.good, fun t' => ?_, fun t' q hq => ?_, fun g c hgc => (hs.rel.glob g c hgc).ext s1.ext _ _ (by simp [AV.ids])⟩, hs.step.trans s1, hs.size, hs.defers⟩, fun q hq h => ?_⟩
    · show RelV E1 (upd t _ s.slots t') _
      by_cases ht : t' = t
      · subst ht; rw [upd_same]; exact r1
      · rw [upd_other _ _ ht]; exact (hs.rel.slots t').ext s1.ext _ _ (hs.rel.names t')
    · have hq : q ∈ (upd t (rowOf rows s.heap s.next (s.slots t)).1 s.slots t').ids := hq
      by_cases ht : t' = t
      · subst ht; rw [upd_same] at hq; exact i1 q hq
      · rw [upd_other _ _ ht] at hq; exact .inl (hs.rel.names t' q hq)
    · have hq : s.next + 1 ≤ q := hq
      rcases h with h | h
      · exact hf q (by omega) h
      · omega

theorem rowsBoxes_at {rows : List (TypeId × Fl × K)} : ∀ (ids : List Nat) (s : St) (a : Act) (w : World), At glob nt E0 N0 s a w → At glob nt E0 N0 (rowsBoxes rows ids s) a w
  | [], s, a, w, hat => hat
  | r :: l, s, a, w, hat => by
    simp only [rowsBoxes]
    split
    · rename_i cells hr
      refine rowsBoxes_at l _ a _ ?_
      obtain ⟨E, N, rfl, hs, hf⟩ := hat
      have hH := hs.rel.H
      have hg := hs.rel.good
      rw [← hH] at hr
      obtain ⟨gr, hgr, hrel⟩ := hg.roots r _ hr
      obtain ⟨hNr, hNi⟩ := hg.names r _ hr
      have hrm : r < s.next := by
        by_cases h : r < s.next
        · exact h
        · exact absurd hNr (hf r (by omega))
      cases gr with
      | box g =>
        obtain ⟨vs, e, hw, hall⟩ := hrel
        obtain ⟨E1, N1, s1, hH1, w1, r1, i1, f1, le1, k1⟩ := rowsAll_ok (rows := rows) cells vs.toList E N s.next _ _ _ hg hf hall hNi rfl
        rw [hH] at hH1 r1 i1 f1 le1
        have h1r := k1 r hrm
        let E2 : Env := { S := E1.S, F := E1.F, w := E1.w, H := upd r (some (.box (rowsAll rows cells s.heap s.next).1)) E1.H, G := E1.G }
        have hE1r : E1.H r = some (.box cells) := h1r.1.trans hr
        have hG1r : E1.G r = some (.box g) := h1r.2.trans hgr
        have hc : Chg (· = r) N1 E1 E2 := by
          refine ⟨fun q hq => upd_other _ _ hq, fun q hq => rfl, Nat.le_refl _, rfl, rfl, rfl, fun b _ _ => rfl, s1.good.S, ?_, ?_, rfl⟩
          · rintro d gr rfl hgr b hb
            exact ⟨s1.good.lt b ⟨d, gr, hgr, hb⟩, .inr ⟨d, gr, rfl, hgr, hb⟩⟩
          · rintro d rfl _
            show ExtR (E1.H d) (upd d _ E1.H d) (E1.G d) (E1.G d)
            rw [upd_same]
            exact ⟨⟨cells, hE1r⟩, rfl⟩
        have hx := hc.toExt s1.good
        have hgood : Good E2 N1 := by
          refine hc.good s1.good (fun _ h => h) ?_ ?_ ?_ ?_ ?_
          · rintro d root rfl h
            simp only [E2, upd_same, Option.some.injEq] at h
            subst h
            exact ⟨.box g, hG1r, vs, e, by show E1.w.heap[g]? = _; rw [w1]; exact hw, relAll_ext hx i1 r1⟩
          · rintro d rfl h; simp [E2, upd_same] at h
          · rintro d d' g g' rfl rfl hne; exact absurd rfl hne
          · rintro d gr rfl h; exact s1.good.nodup d gr h
          · rintro d root rfl h
            simp only [E2, upd_same, Option.some.injEq] at h
            subst h
            exact ⟨s1.le d hNr, i1⟩
        have st2 : Step1 E N E2 N1 := s1.trans (hc.step s1.good (fun _ h => h) hgood)
        refine ⟨E2, N1, w1, ⟨⟨by show upd r _ E1.H = _; rw [hH1], hgood, fun t => (hs.rel.slots t).ext st2.ext _ _ (hs.rel.names t), fun t q hq => s1.le q (hs.rel.names t q hq), fun g c hgc => (hs.rel.glob g c hgc).ext st2.ext _ _ (by simp [AV.ids])⟩, hs.step.trans st2, hs.size, hs.defers⟩, f1⟩
      | _ => exact hrel.elim
    · exact rowsBoxes_at l s a w hat

theorem rowsSt_at {rows : List (TypeId × Fl × K)} {live : List Nat} {s s' : St} {a : Act} {w : World} (h : rowsSt rows live s = some s') (hat : At glob nt E0 N0 s a w) : At glob nt E0 N0 s' a w := by
  unfold rowsSt at h
  split at h
  · injection h with h; subst h; exact hat
  · split at h
    · injection h with h
      subst h
      exact rowsBoxes_at _ _ a w (rowsSlots_at live s a w hat)
    · cases h

theorem cutAt_at {h : Hint} {l : List (Nat × List Nat)} {id : Nat} {s s' : St} {a : Act} {w : World} (hm : l = [] ∨ ∀ j, N0 j → j < h.names) (hc : cutAt h l id s = some s') (hat : At glob nt E0 N0 s a w) : At glob nt E0 N0 s' a w := by
  unfold cutAt at hc
  split at hc
  · injection hc with hc; subst hc; exact hat
  · rename_i live hl
    rcases hm with rfl | hm
    · cases hl
    · split at hc
      · rename_i s1 hs1
        exact canon_at hm hc (rowsSt_at hs1 hat)
      · cases hc
end
end Go.Lite
end

section
/-
  LITE 60: code, and functions: what the evaluator answers is what the model does.
-/
set_option linter.unusedVariables false
set_option linter.unusedSimpArgs false
namespace Go.Lite
open Go Go.RowKit

def exitOf : Ex → Exit
  | .norm => .normal
  | .ret => .ret
  | .exit id => .exit id

section
variable {P : Program} {hint : Nat → Hint} {glob : Nat → Option Comp} {nt : Nat} {E0 : Env} {N0 : Nat → Prop}

/-- Every end but those that the evaluator knows is out of the question. -/
def AtEnd (glob : Nat → Option Comp) (nt : Nat) (E0 : Env) (N0 : Nat → Prop) (o : Out) : Exit → Act → World → Prop := fun e a w => e = exitOf o.ex ∧ At glob nt E0 N0 o.s a w

theorem evalCode_ok (hp : PHyp P) {h : Hint} {callF : CallF} (hspec : CallSpec P glob callF) (hm : (h.pre = [] ∧ h.post = []) ∨ ∀ j, N0 j → j < h.names) (n : Nat) : ∀ (c : Code) (s : St) (o : Out) (a : Act) (w : World), evalCode (mkCx P hint glob) h callF nt n c s = some o → At glob nt E0 N0 s a w → c.wp P (AtEnd glob nt E0 N0 o) a w := by
  intro c
  induction c with
  | skip => intro s o a w he hat; simp only [evalCode, Option.some.injEq] at he; subst he; exact wp_skip ⟨rfl, hat⟩
  | label l => intro s o a w he hat; simp only [evalCode, Option.some.injEq] at he; subst he; exact wp_label ⟨rfl, hat⟩
  | region id ops draw =>
    intro s o a w he hat
    simp only [evalCode] at he
    split at he
    · rename_i s1 hpre
      have hat := cutAt_at (hm.imp And.left (fun x => x)) hpre hat
      split at he
      · rename_i s' hs
        split at he
        · rename_i s2 hpost
          injection he with he
          subst he
          have fin : ∀ a' w', At glob nt E0 N0 s' a' w' → AtEnd glob nt E0 N0 ⟨.norm, s2⟩ .normal a' w' := fun a' w' h => ⟨rfl, cutAt_at (hm.imp And.right (fun x => x)) hpost h⟩
          cases draw with
          | false =>
            refine wp_region ?_
            have := evalOps_ok (i := 0) (Q := AtEnd glob nt E0 N0 ⟨.norm, s2⟩) hp hspec ops.toList s1 s' a w rfl hs hat fin
            rw [Array.length_toList, ← List.range_eq_range'] at this
            exact this
          | true => exact drawn_ok hp hspec hs hat fin
        · cases he
      · cases he
    · cases he
  | seq x y ihx ihy =>
    intro s o a w he hat
    simp only [evalCode] at he
    refine wp_seq ?_
    split at he
    · rename_i s1 hx
      refine wp_mono (ihx s _ a w hx hat) ?_
      rintro e a1 w1 ⟨rfl, h1⟩
      exact ihy s1 o a1 w1 he h1
    · rename_i r hr
      refine wp_mono (ihx s o a w he hat) ?_
      rintro e a1 w1 ⟨rfl, h1⟩
      obtain ⟨ex, s1⟩ := o
      cases ex with
      | norm => exact absurd he (hr s1)
      | ret => exact ⟨rfl, h1⟩
      | exit id => exact ⟨rfl, h1⟩
  | cond c x y ihx ihy =>
    intro s o a w he hat
    simp only [evalCode] at he
    split at he
    · rename_i b hb
      obtain ⟨E, N, rfl, hs, hf⟩ := hat
      have hc := relV_bool.1 (operand_rel hs.rel hb).1
      cases b with
      | true => exact wp_cond_true hc (ihx s o a E.w he ⟨E, N, rfl, hs, hf⟩)
      | false => exact wp_cond_false hc (ihy s o a E.w he ⟨E, N, rfl, hs, hf⟩)
    · cases he
  | block id c ih =>
    intro s o a w he hat
    simp only [evalCode] at he
    refine wp_block ?_
    split at he
    · rename_i j s1 hc
      refine wp_mono (ih s _ a w hc hat) ?_
      rintro e a1 w1 ⟨rfl, h1⟩
      split at he
      · rename_i hj
        have hj : j = id := by simpa using hj
        injection he with he
        subst he hj
        show Exit.inBlock j _ (.exit j) a1 w1
        simp only [Exit.inBlock, if_true]
        exact ⟨rfl, h1⟩
      · rename_i hj
        have hj : ¬ j = id := by simpa using hj
        injection he with he
        subst he
        show Exit.inBlock id _ (.exit j) a1 w1
        simp only [Exit.inBlock, if_neg hj]
        exact ⟨rfl, h1⟩
    · rename_i r hr
      refine wp_mono (ih s o a w he hat) ?_
      rintro e a1 w1 ⟨rfl, h1⟩
      obtain ⟨ex, s1⟩ := o
      cases ex with
      | norm => exact ⟨rfl, h1⟩
      | ret => exact ⟨rfl, h1⟩
      | exit id => exact absurd he (hr id s1)
  | loop c ih =>
    intro s o a w he hat
    simp only [evalCode] at he
    refine wp_loop_rounds n ?_
    have key : ∀ (m : Nat) (s : St) (o : Out) (a : Act) (w : World), rounds (evalCode (mkCx P hint glob) h callF nt n c) m s = some o → At glob nt E0 N0 s a w → Code.rounds P c (AtEnd glob nt E0 N0 o) m a w := by
      intro m
      induction m with
      | zero => intro s o a w he; cases he
      | succ m ihm =>
        intro s o a w he hat
        simp only [rounds] at he
        rw [rounds_succ]
        split at he
        · rename_i s1 hc
          refine wp_mono (ih s _ a w hc hat) ?_
          rintro e a1 w1 ⟨rfl, h1⟩
          exact ihm s1 o a1 w1 he h1
        · rename_i r hr
          refine wp_mono (ih s o a w he hat) ?_
          rintro e a1 w1 ⟨rfl, h1⟩
          obtain ⟨ex, s1⟩ := o
          cases ex with
          | norm => exact absurd he (hr s1)
          | ret => exact ⟨rfl, h1⟩
          | exit id => exact ⟨rfl, h1⟩
    exact key n s o a w he hat
  | exit id => intro s o a w he hat; simp only [evalCode, Option.some.injEq] at he; subst he; exact wp_exit ⟨rfl, hat⟩
  | scope c ih =>
    intro s o a w he hat
    simp only [evalCode] at he
    refine wp_scope_straight (wp_mono (ih s o a w he hat) ?_)
    rintro e a1 w1 ⟨rfl, h1⟩
    obtain ⟨ex, s1⟩ := o
    cases ex <;> exact ⟨rfl, h1⟩
  | ret => intro s o a w he hat; simp only [evalCode, Option.some.injEq] at he; subst he; exact wp_ret ⟨rfl, hat⟩
  | _ => intro s o a w he hat; simp [evalCode] at he

theorem argsFrom_get : ∀ (l : List AV) (n t : Nat), argsFrom n l t = if n ≤ t then (l[t - n]?).getD .undef else .undef
  | [], n, t => by simp [argsFrom]
  | v :: l, n, t => by
    simp only [argsFrom]
    by_cases ht : t = n
    · subst ht; rw [upd_same]; simp
    · rw [upd_other _ _ ht, argsFrom_get l (n + 1) t]
      by_cases hle : n ≤ t
      · have : t - n = (t - (n + 1)) + 1 := by omega
        rw [if_pos hle, if_pos (by omega), this, List.getElem?_cons_succ]
      · rw [if_neg hle, if_neg (by omega)]

/-- What the evaluator answers is what a call does. -/
theorem evalFn_spec (hp : PHyp P) : ∀ n, CallSpec P glob (evalFn (mkCx P hint glob) n)
  | 0 => fun f args roots v roots2 h => by cases h
  | n + 1 => by
    intro f args roots v roots2 h E xs hg hH hgl hargs hids
    simp only [evalFn] at h
    split at h
    · cases h
    · rename_i fn hfn
      have hfn : P.funcs[f]? = some fn := hfn
      split at h
      · cases h
      · rename_i c hc
        obtain ⟨hnames, h⟩ := chk_some h
        have hm : ((hint f).pre = [] ∧ (hint f).post = []) ∨ ∀ j, j < roots.length → j < (hint f).names := by
          simp only [Bool.or_eq_true, decide_eq_true_eq, Bool.and_eq_true, List.isEmpty_iff] at hnames
          have hnames : roots.length ≤ (hint f).names ∨ (hint f).pre = [] ∧ (hint f).post = [] := hnames
          exact hnames.elim (fun h => .inr fun j hj => Nat.lt_of_lt_of_le hj h) .inl
        have hl := hargs.length
        let a : Act := { tmps := xs.toArray ++ Array.replicate (fn.ntmps - xs.toArray.size) undef, defers := [] }
        have hrel : RelS glob E (· < roots.length) ⟨argsFrom 0 args, heapFrom 0 (roots.map some), roots.length⟩ a := by
          refine ⟨hH, hg, fun t => ?_, fun t q hq => ?_, hgl⟩
          · show RelV E (argsFrom 0 args t) _
            rw [argsFrom_get, if_pos (Nat.zero_le _), Nat.sub_zero]
            cases ht : args[t]? with
            | none => exact trivial
            | some u =>
              obtain ⟨x, hx, hr⟩ := hargs.get t u ht
              have : a.tmps.getD t undef = x := by
                have hlt := (List.getElem?_eq_some_iff.1 hx).1
                simp only [a]
                rw [Array.getD_eq_getD_getElem?, Array.getElem?_append_left (by simpa using hlt), List.getElem?_toArray, hx]
                rfl
              rw [this]
              exact hr
          · have hq : q ∈ (argsFrom 0 args t).ids := hq
            rw [argsFrom_get, if_pos (Nat.zero_le _), Nat.sub_zero] at hq
            cases ht : args[t]? with
            | none => rw [ht] at hq; simp [AV.ids] at hq
            | some u => rw [ht] at hq; exact hids q (mem_idsAll ht q hq)
        have hat : At glob fn.ntmps E (· < roots.length) ⟨argsFrom 0 args, heapFrom 0 (roots.map some), roots.length⟩ a E.w :=
          ⟨E, _, rfl, ⟨hrel, Step1.refl hg (fun _ h => h), by simp [a]; omega, rfl⟩, fun q hq h => by have h : q < roots.length := h; have hq : roots.length ≤ q := hq; omega⟩
        have fin : ∀ (ex : Ex) (s' : St), evalCode (mkCx P hint glob) (hint f) (evalFn (mkCx P hint glob) n) fn.ntmps n c ⟨argsFrom 0 args, heapFrom 0 (roots.map some), roots.length⟩ = some ⟨ex, s'⟩ → (ex = .norm ∨ ex = .ret) → finish (mkCx P hint glob) fn (hint f).keep roots.length s' = some (v, roots2) →
            Calls P f xs.toArray E.w (fun e w' => ∃ x E', e = .returned x ∧ E'.w = w' ∧ Back E roots.length v roots2 x E') := by
          intro ex s' hev hex hfin
          refine calls_of_wp hfn hc (wp_mono (evalCode_ok hp (evalFn_spec hp n) hm n c _ _ _ _ hev hat) ?_)
          rintro e a1 w1 ⟨rfl, E1, N1, rfl, h1, hf1⟩
          obtain ⟨x, E2, r1, r2, r3, r4, r5, r6, r7, r8, r9⟩ := finish_ok h1.rel (fun j hj => h1.step.le j hj) hfin
          have hback : Back E roots.length v roots2 x E2 := by
            refine ⟨r3, h1.step.ext.trans r4 (fun _ h => h), r5, r6, r7, ?_, fun b hb hlt => h1.step.own b (r8 b hb) hlt, r9.trans h1.step.F⟩
            have ht := h1.step.tr
            exact ⟨by rw [r2]; exact ht.size, by rw [r2]; exact ht.os, by rw [r2]; exact ht.tape, by rw [r2]; exact ht.output, fun b hb hn => by rw [r2]; exact ht.keep b hb hn⟩
          have hbp : a1.defers = [] ∧ ∃ v', (results fn a1.tmps).run P E1.w = .ok v' E1.w ∧ ∃ x E', Ending.returned v' = .returned x ∧ E'.w = E1.w ∧ Back E roots.length v roots2 x E' := by
            refine ⟨h1.defers, x, ?_, x, E2, rfl, r2, hback⟩
            rw [r1]
          rcases hex with rfl | rfl
          · exact hbp
          · exact hbp
        split at h
        · rename_i s' hev; exact fin _ s' hev (.inl rfl) h
        · rename_i s' hev; exact fin _ s' hev (.inr rfl) h
        · cases h
end
end Go.Lite
end

section
/-
  LITE 61: what comes in, as data.
-/
set_option linter.unusedVariables false
set_option linter.unusedSimpArgs false
namespace Go.Lite
open Go Go.RowKit

/-- Numbers in their range, lists that can be. -/
def K.wf : (k : K) → k.D → Prop
  | .int k, (n : Int) => k.min ≤ n ∧ n ≤ k.max
  | .bool, _ => True
  | .str, (s : ByteArray) => s.size ≤ maxLen
  | .unit, _ => True
  | .slice k, (l : List k.D) => l.length ≤ maxLen ∧ ∀ x ∈ l, k.wf x
  | .array n k, (l : List k.D) => l.length = n ∧ ∀ x ∈ l, k.wf x
  | .pair a b, (d : a.D × b.D) => a.wf d.1 ∧ b.wf d.2
/-- Elements of slices take some place. -/
def K.solid : K → Bool
  | .slice k => decide (0 < k.sz) && k.solid
  | .array _ k => k.solid
  | .pair a b => a.solid && b.solid
  | _ => true

section
variable {P : Program} {H : Type} {enc : TypeId × Value → H} {w : World} {sp : Nat → Bool} {held : Bool}

theorem mapM_get {α β : Type} {f : α → Option β} : ∀ {l : List α} {bs : List β}, l.mapM f = some bs → bs.length = l.length ∧ ∀ (i : Nat) (a : α), l[i]? = some a → ∃ b, bs[i]? = some b ∧ f a = some b
  | [], bs, e => by simp at e; subst e; exact ⟨rfl, fun i a h => by simp at h⟩
  | a :: l, bs, e => by
    rw [List.mapM_cons] at e
    cases hb : f a with
    | none => simp [hb] at e
    | some b =>
      cases hbs : l.mapM f with
      | none => simp [hb, hbs] at e
      | some bs' =>
        simp [hb, hbs] at e
        subst e
        obtain ⟨h1, h2⟩ := mapM_get hbs
        refine ⟨by simp [h1], fun i x h => ?_⟩
        cases i with
        | zero => simp at h; subst h; exact ⟨b, rfl, hb⟩
        | succ i => exact (h2 i x (by simpa using h)).imp fun y hy => ⟨by simpa using hy.1, hy.2⟩

theorem cells?_get {a : Addr} {n : Nat} {vs : List Value} (h : w.cells? 0 a n = some vs) : vs.length = n ∧ ∀ j, j < n → w.cell? (a.add j) = vs[j]? := by
  unfold World.cells? at h
  rw [if_pos (Nat.zero_le _)] at h
  obtain ⟨h1, h2⟩ := mapM_get h
  refine ⟨by simpa using h1, fun j hj => ?_⟩
  obtain ⟨b, hb, hc⟩ := h2 j j (by simp [hj])
  rw [hb, hc]

theorem cell?_lt {a : Addr} {v : Value} (h : w.cell? a = some v) : a.block < w.heap.size := by
  unfold World.cell? at h
  cases hh : w.heap[a.block]? with
  | none => rw [hh] at h; simp at h
  | some o => exact (Array.getElem?_eq_some_iff.1 hh).1

theorem cellsOf_kind {n : Nat} {t : TypeId} {k : K} (h : kindOf P n t = some k) : P.cellsOf t = k.sz := by
  obtain ⟨info, d, h1, _, h3, _⟩ := kindOf_size h
  simp [Program.cellsOf, h1, h3]

theorem list_choose {α β : Type} {R : α → β → Prop} : ∀ (l : List β), (∀ b ∈ l, ∃ a, R a b) → ∃ as : List α, All2 R as l
  | [], _ => ⟨[], trivial⟩
  | b :: l, h => by
    obtain ⟨a, ha⟩ := h b (by simp)
    obtain ⟨as, has⟩ := list_choose l (fun b hb => h b (by simp [hb]))
    exact ⟨a :: as, ha, has⟩

theorem trod_bool {t : TypeId} {fuel : Nat} {cs : List Value} {x : DataW H × List MemPlace} (ht : P.underlying t = some .bool) (h : DataW.trod enc P w 0 sp held fuel t cs = some x) : ∃ b, cs = [.bool b] := by
  cases fuel with
  | zero => simp [DataW.trod] at h
  | succ n =>
    unfold DataW.trod at h
    rw [ht] at h
    match cs, h with
    | [.bool b], _ => exact ⟨b, rfl⟩
    | [], h => simp at h
    | _ :: _ :: _, h => simp at h
    | [.int _ _], h => simp at h
    | [.float _ _], h => simp at h
    | [.complex ..], h => simp at h
    | [.string _], h => simp at h
    | [.pointer _], h => simp at h
    | [.slice ..], h => simp at h
    | [.map _], h => simp at h
    | [.chan _], h => simp at h
    | [.nilFunc], h => simp at h
    | [.func ..], h => simp at h
    | [.nilIface], h => simp at h
    | [.iface ..], h => simp at h
    | [.agg _], h => simp at h
    | [.tuple _], h => simp at h

/-- Fields, read one by one. -/
def FieldsRead (enc : TypeId × Value → H) (P : Program) (w : World) (sp : Nat → Bool) (held : Bool) (fuel : Nat) (fs : List Field) (cs : List Value) : Prop := ∀ f ∈ fs, ∃ x, DataW.trod enc P w 0 sp held fuel f.type ((cs.drop f.offset).take (P.cellsOf f.type)) = some x

/-- What the reader of data has read is data of the kind. -/
theorem trod_rep (k : K) : k.solid = true →
    (∀ (n : Nat) (t : TypeId) (fuel : Nat) (cs : List Value) (x : DataW H × List MemPlace), kindOf P n t = some k → DataW.trod enc P w 0 sp held fuel t cs = some x → ∃ d : k.D, RepC (fun b => b < w.heap.size) w k d cs ∧ k.wf d) ∧
    (∀ (n off : Nat) (fs : List Field) (fuel : Nat) (cs : List Value), kindsOf (kindOf P n) off fs = some k → FieldsRead enc P w sp held fuel fs cs → off + k.sz ≤ cs.length → ∃ d : k.D, RepC (fun b => b < w.heap.size) w k d ((cs.drop off).take k.sz) ∧ k.wf d) := by
  have nofields : ∀ (k : K), (k ≠ .unit ∧ ∀ a b, k ≠ .pair a b) → ∀ f off fs, kindsOf f off fs ≠ some k := by
    intro k hk f off fs h
    cases fs with
    | nil => injection h with h; exact hk.1 h.symm
    | cons x fs =>
      simp only [kindsOf] at h
      split at h
      · split at h
        · split at h
          · injection h with h; exact hk.2 _ _ h.symm
          · cases h
        · cases h
      · cases h
  have pos : ∀ {n t k}, kindOf P n t = some k → ∃ m, n = m + 1 := by
    intro n t k h
    cases n with
    | zero => cases h
    | succ m => exact ⟨m, rfl⟩
  induction k with
  | int ik =>
    refine fun _ => ⟨fun n t fuel cs x hk hx => ?_, fun n off fs _ _ hk => absurd hk (nofields _ ⟨by simp, by simp⟩ _ _ _)⟩
    obtain ⟨m, rfl⟩ := pos hk
    obtain ⟨v, h1, _, h3⟩ := DataW.trod_int (kind_int (kind_some hk)) hx
    simp only [Lit.wf, Bool.and_eq_true, decide_eq_true_eq] at h3
    exact ⟨v, h1, h3⟩
  | bool =>
    refine fun _ => ⟨fun n t fuel cs x hk hx => ?_, fun n off fs _ _ hk => absurd hk (nofields _ ⟨by simp, by simp⟩ _ _ _)⟩
    obtain ⟨m, rfl⟩ := pos hk
    obtain ⟨b, h1⟩ := trod_bool (kind_bool (kind_some hk)) hx
    exact ⟨b, h1, trivial⟩
  | str =>
    refine fun _ => ⟨fun n t fuel cs x hk hx => ?_, fun n off fs _ _ hk => absurd hk (nofields _ ⟨by simp, by simp⟩ _ _ _)⟩
    obtain ⟨m, rfl⟩ := pos hk
    obtain ⟨b, h1, _, h3⟩ := DataW.trod_string (kind_str (kind_some hk)) hx
    exact ⟨b, h1, h3⟩
  | unit =>
    refine fun _ => ⟨fun n t fuel cs x hk hx => ?_, fun n off fs _ _ hk hx hl => ⟨(), by simp [RepC, K.sz], trivial⟩⟩
    obtain ⟨m, rfl⟩ := pos hk
    obtain ⟨info, d, v, h1, h2, h3, _⟩ := (kind_some hk).out
    have hcs : cs.length = 0 := by
      cases d with
      | struct fs =>
        obtain ⟨xs, _, _, _, hl, _⟩ := DataW.trod_struct h2 hx
        rw [cellsOf_kind hk] at hl
        exact hl
      | bool => cases h3
      | int _ => cases h3
      | string => cases h3
      | slice e => obtain ⟨_, _, h⟩ := map_some h3; cases h
      | array _ e => obtain ⟨_, _, h⟩ := map_some h3; cases h
      | _ => cases h3
    exact ⟨(), List.length_eq_zero_iff.1 hcs, trivial⟩
  | slice k ih =>
    intro hs
    simp only [K.solid, Bool.and_eq_true, decide_eq_true_eq] at hs
    obtain ⟨ih, _⟩ := ih hs.2
    refine ⟨fun n t fuel cs x hk hx => ?_, fun n off fs _ _ hk => absurd hk (nofields _ ⟨by simp, by simp⟩ _ _ _)⟩
    obtain ⟨m, rfl⟩ := pos hk
    obtain ⟨e, hu, hke⟩ := kind_slice (kind_some hk)
    rcases DataW.trod_slice hu hx with ⟨rfl, _⟩ | ⟨a, len, cap, elems, rest, fl, _, rfl, _, _, hlc, hcm, hel, hrd, _⟩
    · exact ⟨([] : List k.D), ⟨none, 0, rfl, Nat.le_refl _, .inl rfl⟩, by simp [maxLen], by simp⟩
    · have hsz := cellsOf_kind hke
      have hone : ∀ i ∈ List.range len, ∃ d : k.D, k.wf d ∧ ∃ vs : List Value, vs.length = k.sz ∧ RepC (fun b => b < w.heap.size) w k d vs ∧ ∀ j, j < k.sz → w.cell? (a.add (i * k.sz + j)) = vs[j]? := by
        intro i hi
        have hi : i < len := by simpa using hi
        have := hrd i hi
        rw [List.getElem?_eq_getElem (by omega), hsz] at this
        obtain ⟨vs, hvs, ht⟩ := Option.bind_eq_some_iff.1 this
        obtain ⟨d, hd, hwf⟩ := ih m e fl vs _ hke ht
        obtain ⟨c1, c2⟩ := cells?_get hvs
        exact ⟨d, hwf, vs, c1, hd, fun j hj => by rw [← c2 j hj, add_add]⟩
      obtain ⟨ds, hds⟩ := list_choose (R := fun (d : k.D) i => k.wf d ∧ ∃ vs : List Value, vs.length = k.sz ∧ RepC (fun b => b < w.heap.size) w k d vs ∧ ∀ j, j < k.sz → w.cell? (a.add (i * k.sz + j)) = vs[j]?) (List.range len) hone
      have hl : ds.length = len := by rw [hds.length, List.length_range]
      refine ⟨ds, ⟨some a, cap, by rw [hl], by omega, ?_⟩, by omega, fun d hd => ?_⟩
      · by_cases h0 : ds = []
        · exact .inl h0
        · refine .inr ⟨a, rfl, ?_, fun i d hd => ?_⟩
          · obtain ⟨d, hd⟩ : ∃ d, ds[0]? = some d := by
              cases ds with
              | nil => exact absurd rfl h0
              | cons d _ => exact ⟨d, rfl⟩
            obtain ⟨i, hi, _, vs, v1, _, v3⟩ := hds.get 0 d hd
            have hi0 : i = 0 := by
              have hlt : 0 < (List.range len).length := (List.getElem?_eq_some_iff.1 hi).1
              rw [List.getElem?_range (by simpa using hlt)] at hi
              simpa using hi.symm
            subst hi0
            have := v3 0 hs.1
            rw [List.getElem?_eq_getElem (by omega)] at this
            have := cell?_lt this
            rwa [add_block] at this
          · obtain ⟨i', hi', _, vs, v1, v2, v3⟩ := hds.get i d hd
            have hlt : i < (List.range len).length := (List.getElem?_eq_some_iff.1 hi').1
            rw [List.getElem?_range (by simpa using hlt)] at hi'
            injection hi' with hi'
            subst hi'
            exact ⟨vs, v1, v2, v3⟩
      · obtain ⟨i, hi⟩ := List.getElem?_of_mem hd
        obtain ⟨_, _, h, _⟩ := hds.get i d hi
        exact h
  | array m k ih =>
    intro hs
    obtain ⟨ih, _⟩ := ih hs
    refine ⟨fun n t fuel cs x hk hx => ?_, fun n off fs _ _ hk => absurd hk (nofields _ ⟨by simp, by simp⟩ _ _ _)⟩
    obtain ⟨n', rfl⟩ := pos hk
    obtain ⟨e, hu, hke⟩ := kind_array (kind_some hk)
    obtain ⟨xs, fl, _, _, hcl, hxl, hrd⟩ := DataW.trod_array hu hx
    have hsz := cellsOf_kind hke
    rw [cellsOf_kind hk] at hcl
    have hcl : cs.length = m * k.sz := hcl
    have hone : ∀ i ∈ List.range m, ∃ d : k.D, k.wf d ∧ RepC (fun b => b < w.heap.size) w k d ((cs.drop (i * k.sz)).take k.sz) := by
      intro i hi
      have hi : i < m := by simpa using hi
      have := hrd i hi
      rw [List.getElem?_eq_getElem (by omega), hsz] at this
      obtain ⟨d, hd, hwf⟩ := ih n' e fl _ _ hke this
      exact ⟨d, hwf, hd⟩
    obtain ⟨ds, hds⟩ := list_choose (R := fun (d : k.D) i => k.wf d ∧ RepC (fun b => b < w.heap.size) w k d ((cs.drop (i * k.sz)).take k.sz)) (List.range m) hone
    have hl : ds.length = m := by rw [hds.length, List.length_range]
    have cut : ∀ (m : Nat) (cs : List Value), cs.length = m * k.sz → cs = ((List.range m).map fun i => (cs.drop (i * k.sz)).take k.sz).flatten := by
      intro m
      induction m with
      | zero => intro cs h; rw [Nat.zero_mul] at h; rw [List.length_eq_zero_iff.1 h]; rfl
      | succ m ihm =>
        intro cs h
        rw [List.range_succ, List.map_append, List.flatten_append, List.map_cons, List.map_nil]
        simp only [List.flatten_cons, List.flatten_nil, List.append_nil]
        have h1 : (cs.take (m * k.sz)).length = m * k.sz := by rw [List.length_take, h, Nat.add_mul]; omega
        have h2 := ihm (cs.take (m * k.sz)) h1
        have h3 : ((List.range m).map fun i => ((cs.take (m * k.sz)).drop (i * k.sz)).take k.sz) = (List.range m).map fun i => (cs.drop (i * k.sz)).take k.sz := by
          refine List.map_congr_left fun i hi => ?_
          have hi : i < m := by simpa using hi
          have hle : (i + 1) * k.sz ≤ m * k.sz := Nat.mul_le_mul_right _ hi
          rw [Nat.add_mul] at hle
          rw [List.drop_take, List.take_take]
          congr 1
          omega
        rw [h3] at h2
        rw [← h2, List.take_of_length_le (l := cs.drop (m * k.sz)) (by rw [List.length_drop, h, Nat.add_mul]; omega), List.take_append_drop]
    refine ⟨ds, ⟨hl, (List.range m).map fun i => (cs.drop (i * k.sz)).take k.sz, cut m cs hcl, ?_⟩, hl, fun d hd => ?_⟩
    · refine All2.of_get (by rw [hl, List.length_map, List.length_range]) (fun i d vs hd hv => ?_)
      obtain ⟨i', hi', _, hr⟩ := hds.get i d hd
      rw [List.getElem?_map, hi'] at hv
      injection hv with hv
      rw [← hv]
      exact hr
    · obtain ⟨i, hi⟩ := List.getElem?_of_mem hd
      obtain ⟨_, _, h, _⟩ := hds.get i d hi
      exact h
  | pair a b iha ihb =>
    intro hs
    simp only [K.solid, Bool.and_eq_true] at hs
    obtain ⟨iha, _⟩ := iha hs.1
    obtain ⟨_, ihb⟩ := ihb hs.2
    have fields : ∀ (n off : Nat) (fs : List Field) (fuel : Nat) (cs : List Value), kindsOf (kindOf P n) off fs = some (.pair a b) → FieldsRead enc P w sp held fuel fs cs → off + (K.pair a b).sz ≤ cs.length → ∃ d : (K.pair a b).D, RepC (fun b => b < w.heap.size) w (.pair a b) d ((cs.drop off).take (K.pair a b).sz) ∧ (K.pair a b).wf d := by
      intro n off fs fuel cs hk hx hl
      cases fs with
      | nil => cases hk
      | cons f fs =>
        simp only [kindsOf] at hk
        split at hk
        · rename_i a' ha
          split at hk
          · rename_i hoff
            have hoff : f.offset = off := by simpa using hoff
            split at hk
            · rename_i b' hb
              injection hk with hk
              injection hk with e1 e2
              subst e1 e2
              obtain ⟨x, hxf⟩ := hx f (by simp)
              rw [cellsOf_kind ha, hoff] at hxf
              obtain ⟨d1, r1, w1⟩ := iha n f.type fuel _ x ha hxf
              simp only [K.sz] at hl
              obtain ⟨d2, r2, w2⟩ := ihb n (off + a'.sz) fs fuel cs hb (fun g hg => hx g (by simp [hg])) (by omega)
              refine ⟨(d1, d2), ⟨_, _, ?_, r1, r2⟩, w1, w2⟩
              simp only [K.sz]
              rw [← List.drop_drop, List.take_add]
            · cases hk
          · cases hk
        · cases hk
    refine ⟨fun n t fuel cs x hk hx => ?_, fields⟩
    obtain ⟨m, rfl⟩ := pos hk
    obtain ⟨fs, hu, hf⟩ := kind_pair (kind_some hk)
    obtain ⟨xs, fl, _, _, hcl, hxl, hrd⟩ := DataW.trod_struct hu hx
    rw [cellsOf_kind hk] at hcl
    obtain ⟨d, hd, hwf⟩ := fields m 0 fs.toList fl cs hf (fun f hf => by
      obtain ⟨i, hi⟩ := List.getElem?_of_mem hf
      have hi' : fs[i]? = some f := by rw [← Array.getElem?_toList]; exact hi
      have := hrd i f hi'
      have hlt : i < fs.size := (Array.getElem?_eq_some_iff.1 hi').1
      rw [List.getElem?_eq_getElem (by omega)] at this
      exact ⟨_, this⟩) (by omega)
    rw [List.drop_zero, List.take_of_length_le (by omega)] at hd
    exact ⟨d, hd, hwf⟩
end
end Go.Lite
end

section
/-
  LITE 62: a law, from the evaluator's answer to the call.
-/
set_option linter.unusedVariables false
set_option linter.unusedSimpArgs false
namespace Go.Lite
open Go Go.RowKit

section
variable {P : Program} {H : Type} {enc : TypeId × Value → H} {W : World} {sp : Nat → Bool}

/-- A value that fits its type and reads as data of a kind. -/
theorem okWide_kind {base : Nat} {n : Nat} {t : TypeId} {k : K} {v : Value} (hk : kindOf P n t = some k) (hv : Value.okWide P W .any base t v) : (k.isAgg = true → ∃ cs : Array Value, v = .agg cs) ∧ (k.isAgg = false → v.cells = #[v]) := by
  obtain ⟨m, rfl⟩ : ∃ m, n = m + 1 := by
    cases n with
    | zero => cases hk
    | succ m => exact ⟨m, rfl⟩
  have hK := kind_some hk
  cases k with
  | int ik => obtain ⟨x, rfl⟩ := WideShapes.okWide_int (kind_int hK) hv; exact ⟨fun h => (nomatch h), fun _ => rfl⟩
  | bool =>
    have hu := kind_bool hK
    simp only [Value.okWide, hu, Cell.okWide] at hv
    refine ⟨fun h => (nomatch h), fun _ => ?_⟩
    cases v <;> first | rfl | (simp_all [Cell.ok])
  | str => obtain ⟨x, rfl⟩ := WideShapes.okWide_string (kind_str hK) hv; exact ⟨fun h => (nomatch h), fun _ => rfl⟩
  | slice k =>
    obtain ⟨e, hu, _⟩ := kind_slice hK
    obtain ⟨a, l, c, rfl⟩ := WideShapes.okWide_slice hu hv
    exact ⟨fun h => (nomatch h), fun _ => rfl⟩
  | unit =>
    refine ⟨fun _ => ?_, fun h => by cases h⟩
    obtain ⟨info, d, v', h1, h2, h3, _⟩ := hK.out
    have := rawKind_agg h3
    simp only [Value.okWide, h2] at hv
    cases d <;> first | (obtain ⟨cs, hcs, _⟩ := hv; exact ⟨cs, hcs⟩) | (simp [K.isAgg, aggD] at this)
  | array _ _ =>
    refine ⟨fun _ => ?_, fun h => by cases h⟩
    obtain ⟨info, d, v', h1, h2, h3, _⟩ := hK.out
    have := rawKind_agg h3
    simp only [Value.okWide, h2] at hv
    cases d <;> first | (obtain ⟨cs, hcs, _⟩ := hv; exact ⟨cs, hcs⟩) | (simp [K.isAgg, aggD] at this)
  | pair _ _ =>
    refine ⟨fun _ => ?_, fun h => by cases h⟩
    obtain ⟨info, d, v', h1, h2, h3, _⟩ := hK.out
    have := rawKind_agg h3
    simp only [Value.okWide, h2] at hv
    cases d <;> first | (obtain ⟨cs, hcs, _⟩ := hv; exact ⟨cs, hcs⟩) | (simp [K.isAgg, aggD] at this)

def Env.start (W : World) : Env := { S := fun b => b < W.heap.size, w := W, H := fun _ => none, G := fun _ => none, F := fun _ => False }
theorem start_good : Good (Env.start W) (fun _ => False) := by
  have no : ∀ b, ¬ Own (Env.start W).G b := fun b ⟨r, gr, h, _⟩ => by cases h
  exact ⟨fun b => ⟨fun h => ⟨h, no b, fun h => h⟩, fun h => h.1⟩, fun r root h => (nomatch h), fun r _ => rfl, fun b h => absurd h (no b), fun r r' gr gr' _ h => (nomatch h), fun r gr h => (nomatch h), fun r root h => (nomatch h), fun b h => h.elim⟩

theorem args_rel {base : Nat} : ∀ {ts : List TypeId} {ks : List K} {vs : List Value} {ds : List (DataW H)} {p : List MemPlace}, All2 (fun t k => kindOf P 12 t = some k ∧ k.solid = true) ts ks → DataW.TrodAll enc P W 0 sp true ts vs ds p → (∀ (j : Nat) (t : TypeId) (v : Value), ts[j]? = some t → vs[j]? = some v → Value.okWide P W .any base t v) →
    ∃ cs : List Comp, cs.map (·.k) = ks ∧ (∀ c ∈ cs, c.k.wf c.d) ∧ All2 (RelV (Env.start W)) (cs.map fun c => AV.data c.k c.d) vs
  | [], [], [], [], _, _, _, _ => ⟨[], rfl, by simp, trivial⟩
  | t :: ts, k :: ks, v :: vs, d :: ds, p, hk, hA, hv => by
    obtain ⟨p1, q1, ⟨fuel, h1⟩, h2, _⟩ := hA
    obtain ⟨x, hx, hwf⟩ := (trod_rep k hk.1.2).1 12 t fuel _ _ hk.1.1 h1
    obtain ⟨cs, c1, c2, c3⟩ := args_rel hk.2 h2 (fun j t v ht hv' => hv (j + 1) t v (by simpa using ht) (by simpa using hv'))
    obtain ⟨o1, o2⟩ := okWide_kind hk.1.1 (hv 0 t v rfl rfl)
    refine ⟨⟨k, x⟩ :: cs, by simp [c1], fun c hc => ?_, ⟨dataV ⟨hx, o1, o2⟩, c3⟩⟩
    rcases List.mem_cons.1 hc with rfl | hc
    · exact hwf
    · exact c2 c hc
  | [], [], v :: vs, _, _, _, hA, _ => by cases hA
  | [], [], [], _ :: _, _, _, hA, _ => by cases hA
  | _ :: _, _ :: _, [], _, _, _, hA, _ => by cases hA
  | _ :: _, _ :: _, _ :: _, [], _, _, hA, _ => by cases hA
  | [], _ :: _, _, _, _, hk, _, _ => hk.elim
  | _ :: _, [], _, _, _, hk, _, _ => hk.elim

/-- A law: where the evaluator answers true, the call does, and leaves all as it was. -/
theorem law_calls (hp : PHyp P) {hint : Nat → Hint} {f : FuncId} {ks : List K} {base : Nat} {ts : List TypeId} {vs : List Value} {ds : List (DataW H)} {p : List MemPlace} (hk : All2 (fun t k => kindOf P 12 t = some k ∧ k.solid = true) ts ks)
    (heval : ∀ cs : List Comp, cs.map (·.k) = ks → (∀ c ∈ cs, c.k.wf c.d) → ∃ n, evalFn (mkCx P hint (fun _ => none)) n f (cs.map fun c => AV.data c.k c.d) [] = some (.data .bool true, []))
    (hA : DataW.TrodAll enc P W 0 sp true ts vs ds p) (hv : ∀ (j : Nat) (t : TypeId) (v : Value), ts[j]? = some t → vs[j]? = some v → Value.okWide P W .any base t v) :
    Calls P f vs.toArray W (fun e W' => e = .returned (.bool true) ∧ Below W.heap.size W W') := by
  obtain ⟨cs, c1, c2, c3⟩ := args_rel hk hA hv
  obtain ⟨n, hn⟩ := heval cs c1 c2
  have hnoids : ∀ l : List Comp, idsAll (l.map fun c => AV.data c.k c.d) = [] := by
    intro l
    induction l with
    | nil => rfl
    | cons c l ih => simp only [List.map_cons, idsAll, ih]; rfl
  have hg : Good (Env.start W) (· < ([] : List Root).length) := start_good.mono (fun _ h => h.elim)
  have := evalFn_spec (glob := fun _ => none) hp n f _ _ _ _ hn (Env.start W) vs hg rfl (fun g c h => by cases h) c3 (fun q hq => by rw [hnoids] at hq; cases hq)
  refine Calls.mono this ?_
  rintro e W' ⟨x, E', rfl, rfl, hb⟩
  have hx : x = .bool true := relV_bool.1 hb.rel
  subst hx
  refine ⟨rfl, ?_⟩
  have ht := hb.tr
  exact ⟨ht.os, ht.tape, ht.output, ht.size, fun b hb' => ht.keep b hb' (fun ⟨r, gr, h, _⟩ => by cases h)⟩
end
end Go.Lite
end

section
/-
  LITE 70: without fuel.
-/
set_option linter.unusedVariables false
set_option linter.unusedSimpArgs false
namespace Go.Lite
open Go

def CallLe (F G : CallF) : Prop := ∀ f args roots r, F f args roots = some r → G f args roots = some r

section
variable {cx : Cx} {h : Hint} {F G : CallF}

theorem doCall_mono (hle : CallLe F G) {f : FuncId} {args : List AV} {H : Heap} {m : Nat} {r : AV × Heap} (he : doCall cx F f args H m = some r) : doCall cx G f args H m = some r := by
  unfold doCall at he ⊢
  split at he
  · cases he
  · rename_i fn hfn
    (try simp only [hfn])
    split at he
    · rename_i c args2 lent hb hho
      (try simp only [hb, hho])
      split at he
      · cases he
      · rename_i ids hids
        (try simp only [hids])
        split at he
        · rename_i roots hl hr
          (try simp only [hl, hr])
          split at he
          · cases he
          · rename_i v2 roots2 hcall
            simp only [hle _ _ _ _ hcall]
            exact he
        · cases he
    · cases he

theorem evalOp_mono (hle : CallLe F G) {o : Oper} {s : St} {m : Nat} {r : Res} (he : evalOp cx h F o s m = some r) : evalOp cx h G o s m = some r := by
  by_cases hc : ∃ c f, o.op = .call c ∧ c.callee = .value f
  · obtain ⟨c, f, hop, hcal⟩ := hc
    unfold evalOp at he ⊢
    simp only [hop, hcal] at he ⊢
    split at he
    · cases he
    · rename_i args hargs
      (try simp only [hargs])
      split at he
      · rename_i g caps hf
        (try simp only [hf])
        split at he
        · rename_i v H hd
          rw [doCall_mono hle hd]
          exact he
        · cases he
      · cases he
  · have : evalOp cx h F o s m = evalOp cx h G o s m := by
      unfold evalOp
      cases hop : o.op with
      | makeFunc fn first caps => cases fn <;> rfl
      | call c =>
        cases hcal : c.callee with
        | value f => exact absurd ⟨c, f, hop, hcal⟩ hc
        | invoke a b => simp only [hcal]
        | builtin b => simp only [hcal]
      | _ => rfl
    rw [← this]; exact he

theorem evalOps_mono (hle : CallLe F G) {nt : Nat} {ops : Array Oper} : ∀ {l : List Oper} {s s' : St}, evalOps cx h F nt ops l s = some s' → evalOps cx h G nt ops l s = some s'
  | [], s, s', he => he
  | o :: l, s, s', he => by
    simp only [evalOps] at he ⊢
    split at he
    · cases he
    · cases he
    · rename_i hd hask
      split at he
      · rename_i r hr
        simp only [hd, hask, evalOp_mono hle hr]
        exact evalOps_mono hle he
      · cases he
    · rename_i b hd hask
      (try simp only [hd, hask])
      cases b with
      | true =>
        simp only [ite'] at he ⊢
        split at he
        · rename_i r hr
          simp only [evalOp_mono hle hr]
          exact evalOps_mono hle he
        · cases he
      | false =>
        simp only [ite'] at he ⊢
        exact evalOps_mono hle he

theorem resIs_mono (hle : CallLe F G) {v : AV} {o : Oper} {s : St} {m : Nat} (he : resIs v (evalOp cx h F o s m) = true) : resIs v (evalOp cx h G o s m) = true := by
  cases hx : evalOp cx h F o s m with
  | none => rw [hx] at he; cases he
  | some r => rw [hx] at he; rw [evalOp_mono hle hx]; exact he
theorem pairOk_mono (hle : CallLe F G) {ops : Array Oper} {a b : Rec} (he : pairOk cx h F ops a b = true) : pairOk cx h G ops a b = true := by
  unfold pairOk at he ⊢
  simp only [Bool.and_eq_true] at he ⊢
  refine ⟨he.1, ?_⟩
  have he := he.2
  cases ha : a.cls cx h <;> cases hb : b.cls cx h <;> simp only [ha, hb] at he ⊢ <;> first
    | exact he
    | exact resIs_mono hle he
    | (simp only [Bool.and_eq_true] at he ⊢; exact ⟨he.1, resIs_mono hle he.2⟩)
theorem pairsOk_mono (hle : CallLe F G) {ops : Array Oper} : ∀ {l : List Rec} {i : Nat}, pairsOk cx h F ops i l = true → pairsOk cx h G ops i l = true
  | [], i, he => rfl
  | a :: l, i, he => by
    simp only [pairsOk, Bool.and_eq_true, List.all_eq_true, Bool.or_eq_true] at he ⊢
    exact ⟨fun b hb => (he.1 b hb).imp id (pairOk_mono hle), pairsOk_mono hle he.2⟩
theorem traceOps_mono (hle : CallLe F G) {nt : Nat} {ops : Array Oper} : ∀ {l : List Oper} {i : Nat} {prs : List (List Nat)} {s : St} {r : List Rec × St}, traceOps cx h F nt ops i prs l s = some r → traceOps cx h G nt ops i prs l s = some r
  | [], i, prs, s, r, he => he
  | o :: l, i, prs, s, r, he => by
    simp only [traceOps] at he ⊢
    split at he
    · rename_i pr hd hask hpr
      split at he
      · rename_i r1 hr
        simp only [hd, hask, hpr, evalOp_mono hle hr]
        split at he
        · rename_i t s1 ht
          simp only [traceOps_mono hle ht]
          exact he
        · cases he
      · cases he
    · rename_i b pr hd hask hpr
      (try simp only [hd, hask, hpr])
      cases b with
      | true =>
        simp only [ite'] at he ⊢
        split at he
        · rename_i r1 hr
          simp only [evalOp_mono hle hr]
          split at he
          · rename_i t s1 ht
            simp only [traceOps_mono hle ht]
            exact he
          · cases he
        · cases he
      | false =>
        simp only [ite'] at he ⊢
        split at he
        · rename_i t s1 ht
          simp only [traceOps_mono hle ht]
          exact he
        · cases he
    · cases he
theorem evalDrawn_mono (hle : CallLe F G) {nt : Nat} {ops : Array Oper} {s s' : St} (he : evalDrawn cx h F nt ops s = some s') : evalDrawn cx h G nt ops s = some s' := by
  unfold evalDrawn at he ⊢
  split at he
  · rename_i t s1 ht
    simp only [traceOps_mono hle ht]
    unfold chk at he ⊢
    split at he
    · rename_i hb
      simp only [pairsOk_mono hle hb]
      exact he
    · cases he
  · cases he

theorem rounds_mono {body body' : St → Option Out} (hb : ∀ s o, body s = some o → body' s = some o) : ∀ {n m : Nat} {s : St} {o : Out}, n ≤ m → rounds body n s = some o → rounds body' m s = some o
  | 0, _, _, _, _, he => by cases he
  | n + 1, 0, _, _, hle, _ => by omega
  | n + 1, m + 1, s, o, hle, he => by
    simp only [rounds] at he ⊢
    split at he
    · rename_i s1 h1
      simp only [hb _ _ h1]
      exact rounds_mono hb (by omega) he
    · rename_i r hr
      rw [hb _ _ he]
      obtain ⟨ex, s1⟩ := o
      cases ex with
      | norm => exact absurd he (hr s1)
      | _ => rfl

theorem evalCode_mono (hle : CallLe F G) {nt n m : Nat} (hnm : n ≤ m) : ∀ {c : Code} {s : St} {o : Out}, evalCode cx h F nt n c s = some o → evalCode cx h G nt m c s = some o := by
  intro c
  induction c with
  | skip => intro s o he; exact he
  | label l => intro s o he; exact he
  | exit l => intro s o he; exact he
  | ret => intro s o he; exact he
  | scope c ih => intro s o he; simp only [evalCode] at he ⊢; exact ih he
  | region id ops draw =>
    intro s o he
    simp only [evalCode] at he ⊢
    split at he
    · rename_i s1 hpre
      cases draw with
      | false =>
        simp only at he ⊢
        split at he
        · rename_i s2 h1
          simp only [hpre, evalOps_mono hle h1]
          exact he
        · cases he
      | true =>
        simp only at he ⊢
        split at he
        · rename_i s2 h1
          simp only [hpre, evalDrawn_mono hle h1]
          exact he
        · cases he
    · cases he
  | seq x y ihx ihy =>
    intro s o he
    simp only [evalCode] at he ⊢
    split at he
    · rename_i s1 h1
      simp only [ihx h1]
      exact ihy he
    · rename_i r hr
      rw [ihx he]
      obtain ⟨ex, s1⟩ := o
      cases ex with
      | norm => exact absurd he (hr s1)
      | _ => rfl
  | cond c x y ihx ihy =>
    intro s o he
    simp only [evalCode] at he ⊢
    split at he
    · rename_i b hb
      cases b with
      | true => exact ihx he
      | false => exact ihy he
    · cases he
  | block id c ih =>
    intro s o he
    simp only [evalCode] at he ⊢
    split at he
    · rename_i j s1 h1
      simp only [ih h1]
      exact he
    · rename_i r hr
      rw [ih he]
      obtain ⟨ex, s1⟩ := o
      cases ex with
      | exit j => exact absurd he (hr j s1)
      | _ => rfl
  | loop c ih =>
    intro s o he
    simp only [evalCode] at he ⊢
    exact rounds_mono (fun s o => ih) hnm he
  | _ => intro s o he; simp [evalCode] at he

theorem evalFn_mono : ∀ {n m : Nat}, n ≤ m → CallLe (evalFn cx n) (evalFn cx m)
  | 0, _, _ => fun f args roots r he => by cases he
  | n + 1, 0, hle => by omega
  | n + 1, m + 1, hle => by
    intro f args roots r he
    simp only [evalFn] at he ⊢
    split at he
    · cases he
    · rename_i fn hfn
      (try simp only [hfn])
      split at he
      · cases he
      · rename_i c hc
        (try simp only [hc])
        have hm : CallLe (evalFn cx n) (evalFn cx m) := evalFn_mono (by omega)
        unfold chk at he ⊢
        split at he
        · rename_i hb
          simp only [hb]
          split at he
          · rename_i s1 h1
            simp only [evalCode_mono hm (show n ≤ m by omega) h1]
            exact he
          · rename_i s1 h1
            simp only [evalCode_mono hm (show n ≤ m by omega) h1]
            exact he
          · cases he
        · cases he

/-! ### All fuel at once -/
open Classical in
noncomputable def evalLim (cx : Cx) : CallF := fun f args roots => if h : ∃ n, (evalFn cx n f args roots).isSome = true then evalFn cx (Classical.choose h) f args roots else none
theorem lim_some {f : FuncId} {args : List AV} {roots : List Root} {r : AV × List (Option Root)} : evalLim cx f args roots = some r ↔ ∃ n, evalFn cx n f args roots = some r := by
  unfold evalLim
  constructor
  · intro he
    split at he
    · exact ⟨_, he⟩
    · cases he
  · rintro ⟨n, hn⟩
    have hex : ∃ n, (evalFn cx n f args roots).isSome = true := ⟨n, by rw [hn]; rfl⟩
    rw [dif_pos hex]
    have hs := Classical.choose_spec hex
    obtain ⟨r', hr'⟩ := Option.isSome_iff_exists.1 hs
    have h1 := evalFn_mono (cx := cx) (Nat.le_max_left n (Classical.choose hex)) _ _ _ _ hn
    have h2 := evalFn_mono (cx := cx) (Nat.le_max_right n (Classical.choose hex)) _ _ _ _ hr'
    rw [h1] at h2
    rw [hr']; exact h2.symm

/-- From some fuel on. -/
def Soon (p : Nat → Prop) : Prop := ∃ n, ∀ m, n ≤ m → p m
theorem Soon.and {p q : Nat → Prop} (hp : Soon p) (hq : Soon q) : Soon fun m => p m ∧ q m := by
  obtain ⟨a, ha⟩ := hp
  obtain ⟨b, hb⟩ := hq
  exact ⟨max a b, fun m hm => ⟨ha m (by omega), hb m (by omega)⟩⟩
theorem Soon.imp {p q : Nat → Prop} (hp : Soon p) (h : ∀ m, p m → q m) : Soon q := by
  obtain ⟨a, ha⟩ := hp
  exact ⟨a, fun m hm => h m (ha m hm)⟩
theorem Soon.all {α : Type} {p : α → Nat → Prop} : ∀ {l : List α}, (∀ a ∈ l, Soon (p a)) → Soon fun m => ∀ a ∈ l, p a m
  | [], _ => ⟨0, fun m _ a h => (by cases h)⟩
  | a :: l, h => ((h a (by simp)).and (Soon.all (l := l) fun b hb => h b (by simp [hb]))).imp fun m hm b hb => by
    rcases List.mem_cons.1 hb with rfl | hb
    · exact hm.1
    · exact hm.2 b hb

theorem doCall_lim {f : FuncId} {args : List AV} {H : Heap} {m : Nat} {r : AV × Heap} (he : doCall cx (evalLim cx) f args H m = some r) : Soon fun n => doCall cx (evalFn cx n) f args H m = some r := by
  unfold doCall at he
  split at he
  · cases he
  · rename_i fn hfn
    split at he
    · rename_i c args2 lent hb hho
      split at he
      · cases he
      · rename_i ids hids
        split at he
        · rename_i roots hl hr
          split at he
          · cases he
          · rename_i v2 roots2 hcall
            obtain ⟨n, hn⟩ := lim_some.1 hcall
            refine ⟨n, fun m' hm' => ?_⟩
            unfold doCall
            simp only [hfn, hb, hho, hids, hl, hr, evalFn_mono hm' _ _ _ _ hn]
            exact he
        · cases he
    · cases he
theorem evalOp_lim {o : Oper} {s : St} {m : Nat} {r : Res} (he : evalOp cx h (evalLim cx) o s m = some r) : Soon fun n => evalOp cx h (evalFn cx n) o s m = some r := by
  by_cases hc : ∃ c f, o.op = .call c ∧ c.callee = .value f
  · obtain ⟨c, f, hop, hcal⟩ := hc
    unfold evalOp at he
    simp only [hop, hcal] at he
    split at he
    · cases he
    · rename_i args hargs
      split at he
      · rename_i g caps hf
        split at he
        · rename_i v H hd
          refine (doCall_lim hd).imp fun n hn => ?_
          unfold evalOp
          simp only [hop, hcal, hargs, hf, hn]
          exact he
        · cases he
      · cases he
  · refine ⟨0, fun n _ => ?_⟩
    show evalOp cx h (evalFn cx n) o s m = some r
    have : evalOp cx h (evalLim cx) o s m = evalOp cx h (evalFn cx n) o s m := by
      unfold evalOp
      cases hop : o.op with
      | makeFunc fn first caps => cases fn <;> rfl
      | call c =>
        cases hcal : c.callee with
        | value f => exact absurd ⟨c, f, hop, hcal⟩ hc
        | invoke a b => simp only [hcal]
        | builtin b => simp only [hcal]
      | _ => rfl
    rw [← this]; exact he
theorem evalOps_lim {nt : Nat} {ops : Array Oper} : ∀ {l : List Oper} {s s' : St}, evalOps cx h (evalLim cx) nt ops l s = some s' → Soon fun n => evalOps cx h (evalFn cx n) nt ops l s = some s'
  | [], s, s', he => ⟨0, fun _ _ => he⟩
  | o :: l, s, s', he => by
    simp only [evalOps] at he
    split at he
    · cases he
    · cases he
    · rename_i hd hask
      split at he
      · rename_i r hr
        refine ((evalOp_lim hr).and (evalOps_lim he)).imp fun n hn => ?_
        simp only [evalOps, hd, hask, hn.1]
        exact hn.2
      · cases he
    · rename_i b hd hask
      cases b with
      | true =>
        simp only [ite'] at he
        split at he
        · rename_i r hr
          refine ((evalOp_lim hr).and (evalOps_lim he)).imp fun n hn => ?_
          simp only [evalOps, hd, hask, ite', hn.1]
          exact hn.2
        · cases he
      | false =>
        simp only [ite'] at he
        refine (evalOps_lim he).imp fun n hn => ?_
        simp only [evalOps, hd, hask, ite']
        exact hn
theorem resIs_lim {v : AV} {o : Oper} {s : St} {m : Nat} (he : resIs v (evalOp cx h (evalLim cx) o s m) = true) : Soon fun n => resIs v (evalOp cx h (evalFn cx n) o s m) = true := by
  cases hx : evalOp cx h (evalLim cx) o s m with
  | none => rw [hx] at he; cases he
  | some r => rw [hx] at he; exact (evalOp_lim hx).imp fun n hn => by rw [hn]; exact he
theorem pairOk_lim {ops : Array Oper} {a b : Rec} (he : pairOk cx h (evalLim cx) ops a b = true) : Soon fun n => pairOk cx h (evalFn cx n) ops a b = true := by
  unfold pairOk at he
  simp only [Bool.and_eq_true] at he
  obtain ⟨h1, he⟩ := he
  cases ha : a.cls cx h <;> cases hb : b.cls cx h <;> simp only [ha, hb] at he <;> first
    | (simp only [Bool.and_eq_true] at he
       refine (resIs_lim he.2).imp fun n hn => ?_
       unfold pairOk
       simp only [h1, ha, hb, Bool.true_and, he.1]
       exact hn)
    | (refine (resIs_lim he).imp fun n hn => ?_; unfold pairOk; simp only [h1, ha, hb, Bool.true_and]; exact hn)
    | (refine ⟨0, fun n _ => ?_⟩; show pairOk cx h (evalFn cx n) ops a b = true; unfold pairOk; simp only [h1, ha, hb, Bool.true_and]; done)
    | (refine ⟨0, fun n _ => ?_⟩; show pairOk cx h (evalFn cx n) ops a b = true; unfold pairOk; simp only [h1, ha, hb, Bool.true_and]; exact he)
theorem pairsOk_lim {ops : Array Oper} : ∀ {l : List Rec} {i : Nat}, pairsOk cx h (evalLim cx) ops i l = true → Soon fun n => pairsOk cx h (evalFn cx n) ops i l = true
  | [], i, he => ⟨0, fun _ _ => rfl⟩
  | a :: l, i, he => by
    simp only [pairsOk, Bool.and_eq_true, List.all_eq_true, Bool.or_eq_true] at he
    have h1 : Soon fun n => ∀ b ∈ l, b.pr.contains i = true ∨ pairOk cx h (evalFn cx n) ops a b = true := Soon.all fun b hb => by
      rcases he.1 b hb with h | h
      · exact ⟨0, fun _ _ => .inl h⟩
      · exact (pairOk_lim h).imp fun n hn => .inr hn
    refine (h1.and (pairsOk_lim he.2)).imp fun n hn => ?_
    simp only [pairsOk, Bool.and_eq_true, List.all_eq_true, Bool.or_eq_true]
    exact hn
theorem traceOps_lim {nt : Nat} {ops : Array Oper} : ∀ {l : List Oper} {i : Nat} {prs : List (List Nat)} {s : St} {r : List Rec × St}, traceOps cx h (evalLim cx) nt ops i prs l s = some r → Soon fun n => traceOps cx h (evalFn cx n) nt ops i prs l s = some r
  | [], i, prs, s, r, he => ⟨0, fun _ _ => he⟩
  | o :: l, i, prs, s, r, he => by
    simp only [traceOps] at he
    split at he
    · rename_i pr hd hask hpr
      split at he
      · rename_i r1 hr
        split at he
        · rename_i t s1 ht
          refine ((evalOp_lim hr).and (traceOps_lim ht)).imp fun n hn => ?_
          simp only [traceOps, hd, hask, hpr, hn.1, hn.2]
          exact he
        · cases he
      · cases he
    · rename_i b pr hd hask hpr
      cases b with
      | true =>
        simp only [ite'] at he
        split at he
        · rename_i r1 hr
          split at he
          · rename_i t s1 ht
            refine ((evalOp_lim hr).and (traceOps_lim ht)).imp fun n hn => ?_
            simp only [traceOps, hd, hask, hpr, ite', hn.1, hn.2]
            exact he
          · cases he
        · cases he
      | false =>
        simp only [ite'] at he
        split at he
        · rename_i t s1 ht
          refine (traceOps_lim ht).imp fun n hn => ?_
          simp only [traceOps, hd, hask, hpr, ite', hn]
          exact he
        · cases he
    · cases he
theorem evalDrawn_lim {nt : Nat} {ops : Array Oper} {s s' : St} (he : evalDrawn cx h (evalLim cx) nt ops s = some s') : Soon fun n => evalDrawn cx h (evalFn cx n) nt ops s = some s' := by
  unfold evalDrawn at he
  split at he
  · rename_i t s1 ht
    unfold chk at he
    split at he
    · rename_i hb
      refine ((traceOps_lim ht).and (pairsOk_lim hb)).imp fun n hn => ?_
      unfold evalDrawn
      simp only [hn.1, hn.2, chk]
      exact he
    · cases he
  · cases he

theorem evalCode_lim {nt k : Nat} : ∀ {c : Code} {s : St} {o : Out}, evalCode cx h (evalLim cx) nt k c s = some o → Soon fun n => evalCode cx h (evalFn cx n) nt n c s = some o := by
  intro c
  induction c with
  | skip => intro s o he; exact ⟨0, fun _ _ => he⟩
  | label l => intro s o he; exact ⟨0, fun _ _ => he⟩
  | exit l => intro s o he; exact ⟨0, fun _ _ => he⟩
  | ret => intro s o he; exact ⟨0, fun _ _ => he⟩
  | scope c ih => intro s o he; simp only [evalCode] at he ⊢; exact ih he
  | region id ops draw =>
    intro s o he
    simp only [evalCode] at he ⊢
    split at he
    · rename_i s1 hpre
      cases draw with
      | false =>
        simp only at he ⊢
        split at he
        · rename_i s2 h1
          exact (evalOps_lim h1).imp fun n hn => by simp only [hpre, hn]; exact he
        · cases he
      | true =>
        simp only at he ⊢
        split at he
        · rename_i s2 h1
          exact (evalDrawn_lim h1).imp fun n hn => by simp only [hpre, hn]; exact he
        · cases he
    · cases he
  | seq x y ihx ihy =>
    intro s o he
    simp only [evalCode] at he ⊢
    split at he
    · rename_i s1 h1
      exact ((ihx h1).and (ihy he)).imp fun n hn => by simp only [hn.1]; exact hn.2
    · rename_i r hr
      refine (ihx he).imp fun n hn => ?_
      rw [hn]
      obtain ⟨ex, s1⟩ := o
      cases ex with
      | norm => exact absurd he (hr s1)
      | _ => rfl
  | cond c x y ihx ihy =>
    intro s o he
    simp only [evalCode] at he ⊢
    split at he
    · rename_i b hb
      cases b with
      | true => exact ihx he
      | false => exact ihy he
    · cases he
  | block id c ih =>
    intro s o he
    simp only [evalCode] at he ⊢
    split at he
    · rename_i j s1 h1
      exact (ih h1).imp fun n hn => by simp only [hn]; exact he
    · rename_i r hr
      refine (ih he).imp fun n hn => ?_
      rw [hn]
      obtain ⟨ex, s1⟩ := o
      cases ex with
      | exit j => exact absurd he (hr j s1)
      | _ => rfl
  | loop c ih =>
    intro s o he
    simp only [evalCode] at he ⊢
    have key : ∀ (j : Nat) (s : St) (o : Out), rounds (evalCode cx h (evalLim cx) nt k c) j s = some o → Soon fun n => ∀ i, j ≤ i → rounds (evalCode cx h (evalFn cx n) nt n c) i s = some o := by
      intro j
      induction j with
      | zero => intro s o he; cases he
      | succ j ihj =>
        intro s o he
        simp only [rounds] at he
        split at he
        · rename_i s1 h1
          refine ((ih h1).and (ihj s1 o he)).imp fun n hn i hi => ?_
          obtain ⟨i', rfl⟩ : ∃ i', i = i' + 1 := ⟨i - 1, by omega⟩
          simp only [rounds, hn.1]
          exact hn.2 i' (by omega)
        · rename_i r hr
          refine (ih he).imp fun n hn i hi => ?_
          obtain ⟨i', rfl⟩ : ∃ i', i = i' + 1 := ⟨i - 1, by omega⟩
          simp only [rounds, hn]
          obtain ⟨ex, s1⟩ := o
          cases ex with
          | norm => exact absurd he (hr s1)
          | _ => rfl
    obtain ⟨a, ha⟩ := key k s o he
    exact ⟨max a k, fun m hm => ha m (by omega) m (by omega)⟩
  | _ => intro s o he; simp [evalCode] at he

/-- The roots that come in keep their names. -/
def namesOk (h : Hint) (n : Nat) : Bool := decide (n ≤ h.names) || (h.pre.isEmpty && h.post.isEmpty)
theorem namesOk_zero (h : Hint) : namesOk h 0 = true := by simp [namesOk]
/-- A function's answer, from its code's. -/
theorem fn_ok {f : FuncId} {fn : Func} {c : Code} {args : List AV} {roots : List Root} {k : Nat} {ex : Ex} {s : St} {r : AV × List (Option Root)} (hf : cx.fn f = some fn) (hc : fn.body = some c) (hnm : namesOk (cx.hint f) roots.length = true)
    (he : evalCode cx (cx.hint f) (evalLim cx) fn.ntmps k c ⟨argsFrom 0 args, heapFrom 0 (roots.map some), roots.length⟩ = some ⟨ex, s⟩) (hx : ex = .norm ∨ ex = .ret) (hfin : finish cx fn (cx.hint f).keep roots.length s = some r) : evalLim cx f args roots = some r := by
  obtain ⟨n, hn⟩ := evalCode_lim he
  refine lim_some.2 ⟨n + 1, ?_⟩
  unfold namesOk at hnm
  simp only [evalFn, hf, hc, hn n (Nat.le_refl _), hnm, chk]
  rcases hx with rfl | rfl <;> exact hfin
end
end Go.Lite
end

section
/-
  LITE 71: how the evaluator's code is stepped through.
-/
set_option linter.unusedVariables false
set_option linter.unusedSimpArgs false
namespace Go.Lite
open Go

/-- The code ends, and then Q. -/
def WP (cx : Cx) (h : Hint) (F : CallF) (nt : Nat) (c : Code) (Q : Ex → St → Prop) (s : St) : Prop := ∃ k ex s1, evalCode cx h F nt k c s = some ⟨ex, s1⟩ ∧ Q ex s1
/-- The operations end, and then Q. -/
def WO (cx : Cx) (h : Hint) (F : CallF) (nt : Nat) (ops : Array Oper) (l : List Oper) (Q : St → Prop) (s : St) : Prop := ∃ s1, evalOps cx h F nt ops l s = some s1 ∧ Q s1
def RP (r : Option Res) (Q : Res → Prop) : Prop := match r with
  | some r => Q r
  | none => False

section
variable {cx : Cx} {h : Hint} {F : CallF} {nt : Nat} {Q Q' : Ex → St → Prop} {s : St}
theorem CallLe.refl : CallLe F F := fun _ _ _ _ h => h

theorem WP.mono {c : Code} (hw : WP cx h F nt c Q s) (hQ : ∀ ex s, Q ex s → Q' ex s) : WP cx h F nt c Q' s := by
  obtain ⟨k, ex, s1, he, hq⟩ := hw
  exact ⟨k, ex, s1, he, hQ _ _ hq⟩
theorem wp_skip (hq : Q .norm s) : WP cx h F nt .skip Q s := ⟨0, _, _, rfl, hq⟩
theorem wp_ret (hq : Q .ret s) : WP cx h F nt .ret Q s := ⟨0, _, _, rfl, hq⟩
theorem wp_exit {id : Nat} (hq : Q (.exit id) s) : WP cx h F nt (.exit id) Q s := ⟨0, _, _, rfl, hq⟩
theorem wp_label {id} (hq : Q .norm s) : WP cx h F nt (.label id) Q s := ⟨0, _, _, rfl, hq⟩
theorem wp_scope {c : Code} (hq : WP cx h F nt c Q s) : WP cx h F nt (.scope c) Q s := by
  obtain ⟨k, ex, s1, he, hq⟩ := hq
  exact ⟨k, ex, s1, by simp only [evalCode]; exact he, hq⟩
theorem wp_seq {a b : Code} (hq : WP cx h F nt a (fun ex s1 => match ex with | .norm => WP cx h F nt b Q s1 | e => Q e s1) s) : WP cx h F nt (.seq a b) Q s := by
  obtain ⟨k, ex, s1, he, hq⟩ := hq
  cases ex with
  | norm =>
    obtain ⟨k2, ex2, s2, he2, hq2⟩ := hq
    refine ⟨max k k2, ex2, s2, ?_, hq2⟩
    simp only [evalCode, evalCode_mono CallLe.refl (Nat.le_max_left k k2) he]
    exact evalCode_mono CallLe.refl (Nat.le_max_right k k2) he2
  | ret => exact ⟨k, _, s1, by simp only [evalCode, he], hq⟩
  | exit j => exact ⟨k, _, s1, by simp only [evalCode, he], hq⟩
theorem wp_block {id : Nat} {c : Code} (hq : WP cx h F nt c (fun ex s1 => match ex with | .exit j => (match Nat.beq j id with | true => Q .norm s1 | false => Q (.exit j) s1) | e => Q e s1) s) : WP cx h F nt (.block id c) Q s := by
  obtain ⟨k, ex, s1, he, hq⟩ := hq
  cases ex with
  | norm => exact ⟨k, _, s1, by simp only [evalCode, he], hq⟩
  | ret => exact ⟨k, _, s1, by simp only [evalCode, he], hq⟩
  | exit j =>
    by_cases hj : j = id
    · subst hj
      have hb : Nat.beq j j = true := Nat.beq_refl j
      simp only [hb] at hq
      exact ⟨k, .norm, s1, by simp only [evalCode, he, beq_self_eq_true], hq⟩
    · have hb : Nat.beq j id = false := by
        cases hx : Nat.beq j id with
        | true => exact absurd (Nat.eq_of_beq_eq_true hx) hj
        | false => rfl
      simp only [hb] at hq
      refine ⟨k, .exit j, s1, ?_, hq⟩
      have : (j == id) = false := by simpa using hj
      simp only [evalCode, he, this]
theorem wp_cond {c : Operand} {a b : Code} (x : Bool) (hc : operand cx s.slots c = some (.data .bool x)) (h1 : x = true → WP cx h F nt a Q s) (h2 : x = false → WP cx h F nt b Q s) : WP cx h F nt (.cond c a b) Q s := by
  cases x with
  | true =>
    obtain ⟨k, ex, s1, he, hq⟩ := h1 rfl
    exact ⟨k, ex, s1, by simp only [evalCode, hc]; exact he, hq⟩
  | false =>
    obtain ⟨k, ex, s1, he, hq⟩ := h2 rfl
    exact ⟨k, ex, s1, by simp only [evalCode, hc]; exact he, hq⟩
/-- A region without a cut. -/
def noCut (h : Hint) (id : Nat) : Bool := (cutFor h.pre id).isNone && (cutFor h.post id).isNone
theorem noCut_none {id : Nat} (hc : noCut h id = true) (s : St) : cutAt h h.pre id s = some s ∧ cutAt h h.post id s = some s := by
  simp only [noCut, Bool.and_eq_true, Option.isNone_iff_eq_none] at hc
  simp only [cutAt, hc.1, hc.2, and_self]
theorem wp_region {id} {ops : Array Oper} (hc : noCut h id = true) (hq : WO cx h F nt ops ops.toList (Q .norm) s) : WP cx h F nt (.region id ops false) Q s := by
  obtain ⟨s1, he, hq⟩ := hq
  exact ⟨0, _, s1, by simp only [evalCode, (noCut_none hc _).1, he, (noCut_none hc _).2], hq⟩
/-- Two pieces, and what holds between them. -/
theorem wp_mid {a b : Code} (M : St → Prop) (h1 : WP cx h F nt a (fun ex s1 => ex = .norm ∧ M s1) s) (h2 : ∀ s1, M s1 → WP cx h F nt b Q s1) : WP cx h F nt (.seq a b) Q s :=
  wp_seq (h1.mono fun ex s1 hq => by obtain ⟨rfl, hm⟩ := hq; exact h2 s1 hm)
theorem wp_part {a b : Code} (M : St → Prop) (h1 : WP cx h F nt a (fun ex s1 => match ex with | .norm => M s1 | e => Q e s1) s) (h2 : ∀ s1, M s1 → WP cx h F nt b Q s1) : WP cx h F nt (.seq a b) Q s :=
  wp_seq (h1.mono fun ex s1 hq => by
    cases ex with
    | norm => exact h2 s1 hq
    | _ => exact hq)
/-- A region, and what is behind it. -/
theorem wp_reg {id} {ops : Array Oper} {b : Code} (hc : noCut h id = true) (hq : ∀ P : St → Prop, (∀ s1, WP cx h F nt b Q s1 → P s1) → WO cx h F nt ops ops.toList P s) : WP cx h F nt (.seq (.region id ops false) b) Q s :=
  wp_seq (wp_region hc (hq _ fun _ h => h))
theorem wp_reg1 {id} {ops : Array Oper} (hc : noCut h id = true) (hq : ∀ P : St → Prop, (∀ s1, Q .norm s1 → P s1) → WO cx h F nt ops ops.toList P s) : WP cx h F nt (.region id ops false) Q s :=
  wp_region hc (hq _ fun _ h => h)

theorem wp_loop1 {c : Code} (hq : WP cx h F nt c (fun ex s1 => match ex with | .norm => WP cx h F nt (.loop c) Q s1 | e => Q e s1) s) : WP cx h F nt (.loop c) Q s := by
  obtain ⟨k, ex, s1, he, hq⟩ := hq
  cases ex with
  | norm =>
    obtain ⟨k2, ex2, s2, he2, hq2⟩ := hq
    have hle1 : k ≤ max k k2 + 1 := Nat.le_succ_of_le (Nat.le_max_left k k2)
    have hle2 : k2 ≤ max k k2 + 1 := Nat.le_succ_of_le (Nat.le_max_right k k2)
    refine ⟨max k k2 + 1, ex2, s2, ?_, hq2⟩
    simp only [evalCode, rounds, evalCode_mono CallLe.refl hle1 he]
    simp only [evalCode] at he2
    exact rounds_mono (fun s o h => evalCode_mono CallLe.refl hle2 h) (Nat.le_max_right k k2) he2
  | ret =>
    refine ⟨k + 1, .ret, s1, ?_, hq⟩
    simp only [evalCode, rounds, evalCode_mono CallLe.refl (Nat.le_succ k) he]
  | exit j =>
    refine ⟨k + 1, .exit j, s1, ?_, hq⟩
    simp only [evalCode, rounds, evalCode_mono CallLe.refl (Nat.le_succ k) he]

/-- A loop over the numbers from i to n. -/
theorem wp_range {c : Code} {n : Nat} (Inv : Nat → St → Prop) (hstep : ∀ i s, i ≤ n → Inv i s → WP cx h F nt c (fun ex s1 => match ex with | .norm => i < n ∧ Inv (i + 1) s1 | e => Q e s1) s) : ∀ i s, i ≤ n → Inv i s → WP cx h F nt (.loop c) Q s := by
  have key : ∀ m i s, i + m = n → Inv i s → WP cx h F nt (.loop c) Q s := by
    intro m
    induction m with
    | zero =>
      intro i s hi hinv
      refine wp_loop1 ((hstep i s (by omega) hinv).mono fun ex s1 hq => ?_)
      cases ex with
      | norm => exact absurd hq.1 (by omega)
      | _ => exact hq
    | succ m ih =>
      intro i s hi hinv
      refine wp_loop1 ((hstep i s (by omega) hinv).mono fun ex s1 hq => ?_)
      cases ex with
      | norm => exact ih (i + 1) s1 (by omega) hq.2
      | _ => exact hq
  exact fun i s hi hinv => key (n - i) i s (by omega) hinv

theorem wo_nil {ops : Array Oper} {P : St → Prop} : WO cx h F nt ops [] P s ↔ P s := by
  constructor
  · rintro ⟨s1, h1, h2⟩; cases h1; exact h2
  · intro h; exact ⟨s, rfl, h⟩
/-- How one operation goes that is always asked for. -/
theorem wo_cons {ops : Array Oper} {o : Oper} {l : List Oper} {P : St → Prop} : WO cx h F nt ops (o :: l) P s ↔ ∃ s1, evalOps cx h F nt ops (o :: l) s = some s1 ∧ P s1 := Iff.rfl
end
end Go.Lite
end

section
/-
  LITE 72: answers that are data, and calls that give and take data.
-/
set_option linter.unusedVariables false
set_option linter.unusedSimpArgs false
namespace Go.Lite
open Go

section
variable {cx : Cx} {F : CallF}

theorem finish1 {fn : Func} {t ty : Nat} {k : K} {d : k.D} {s : St} (hr : fn.results.toList = [.tmp t]) (ht : fn.resultTypes.toList = [ty]) (hk : (cx.ty ty).map Ty.kind = some (some k)) (hs : asData cx s.heap k (s.slots t) = some d) : finish cx fn [] 0 s = some (.data k d, []) := by
  unfold finish
  simp [hr, ht, mapAll, finishV, hk, hs, finishAt, oneOf, AV.ids, reach, REACH, AV.ren]
theorem finish2 {fn : Func} {t ty t' ty' : Nat} {k k' : K} {d : k.D} {d' : k'.D} {s : St} (hr : fn.results.toList = [.tmp t, .tmp t']) (ht : fn.resultTypes.toList = [ty, ty']) (hk : (cx.ty ty).map Ty.kind = some (some k)) (hk' : (cx.ty ty').map Ty.kind = some (some k'))
    (hs : asData cx s.heap k (s.slots t) = some d) (hs' : ∀ H, asData cx H k' (s.slots t') = some d') : finish cx fn [] 0 s = some (.tuple [.data k d, .data k' d'], []) := by
  unfold finish
  simp [hr, ht, mapAll, finishV, hk, hk', hs, hs', finishAt, oneOf, AV.ids, idsAll, reach, REACH, AV.ren, renAll]

theorem asData_data {H : Heap} {k : K} {d : k.D} : asData cx H k (.data k d) = some d := by
  simp [asData, K.cast?]

/-- A function's answer, by the rules above. -/
theorem fn_wp {f : FuncId} {fn : Func} {c : Code} {args : List AV} {r : AV} {Q : Ex → St → Prop} (hf : cx.fn f = some fn) (hb : fn.body = some c) (hh : (cx.hint f).keep = [])
    (hw : WP cx (cx.hint f) (evalLim cx) fn.ntmps c Q ⟨argsFrom 0 args, heapFrom 0 [], 0⟩) (hQ : ∀ ex s, Q ex s → (ex = .norm ∨ ex = .ret) ∧ finish cx fn [] 0 s = some (r, [])) : evalLim cx f args [] = some (r, []) := by
  obtain ⟨k, ex, s, he, hq⟩ := hw
  obtain ⟨hx, hfin⟩ := hQ ex s hq
  exact fn_ok (roots := []) hf hb (namesOk_zero _) he hx (by rw [hh]; exact hfin)

mutual
def AV.still : AV → Bool
  | .data .. | .lit .. | .nilV .. | .nilS .. => true
  | .tuple l | .agg l | .fn _ l => stillAll l
  | _ => false
termination_by structural v => v
def stillAll : List AV → Bool
  | [] => true
  | v :: l => v.still && stillAll l
termination_by structural l => l
end
mutual
theorem AV.still_ren (g : Nat → Option Nat) : (v : AV) → v.still = true → v.ren g = v
  | .data .., _ => rfl
  | .lit .., _ => rfl
  | .nilV .., _ => rfl
  | .nilS .., _ => rfl
  | .tuple l, h => by simp only [AV.still] at h; simp only [AV.ren, stillAll_ren g l h]
  | .agg l, h => by simp only [AV.still] at h; simp only [AV.ren, stillAll_ren g l h]
  | .fn f l, h => by simp only [AV.still] at h; simp only [AV.ren, stillAll_ren g l h]
  | .undef, h => by cases h
  | .skip, h => by cases h
  | .at .., h => by cases h
  | .ptr .., h => by cases h
  | .sl .., h => by cases h
  | .el .., h => by cases h
  | .mp .., h => by cases h
  | .it .., h => by cases h
  | .iface .., h => by cases h
theorem stillAll_ren (g : Nat → Option Nat) : (l : List AV) → stillAll l = true → renAll g l = l
  | [], _ => rfl
  | v :: l, h => by
    simp only [stillAll, Bool.and_eq_true] at h
    simp only [renAll, AV.still_ren g v h.1, stillAll_ren g l h.2]
end
mutual
theorem AV.still_ids : (v : AV) → v.still = true → v.ids = []
  | .data .., _ => rfl
  | .lit .., _ => rfl
  | .nilV .., _ => rfl
  | .nilS .., _ => rfl
  | .tuple l, h => by simp only [AV.still] at h; simp only [AV.ids, stillAll_ids l h]
  | .agg l, h => by simp only [AV.still] at h; simp only [AV.ids, stillAll_ids l h]
  | .fn f l, h => by simp only [AV.still] at h; simp only [AV.ids, stillAll_ids l h]
  | .undef, h => by cases h
  | .skip, h => by cases h
  | .at .., h => by cases h
  | .ptr .., h => by cases h
  | .sl .., h => by cases h
  | .el .., h => by cases h
  | .mp .., h => by cases h
  | .it .., h => by cases h
  | .iface .., h => by cases h
theorem stillAll_ids : (l : List AV) → stillAll l = true → idsAll l = []
  | [], _ => rfl
  | v :: l, h => by
    simp only [stillAll, Bool.and_eq_true] at h
    simp only [idsAll, AV.still_ids v h.1, stillAll_ids l h.2, List.append_nil]
end

/-- A call that takes and gives data. -/
theorem doCall_still {f : FuncId} {fn : Func} {c : Code} {args args' : List AV} {lent : List Nat} {H : Heap} {nid : Nat} {v : AV} (hf : cx.fn f = some fn) (hb : fn.body = some c)
    (ho : handOver cx H (cx.hint f).own 0 fn.params.toList args = some (args', lent)) (hs : stillAll args' = true) (hv : v.still = true) (hl : (hasRows v && !lent.isEmpty) = false) (hc : F f args' [] = some (v, [])) : doCall cx F f args H nid = some (v, H) := by
  unfold doCall
  simp only [hf, hb, ho, stillAll_ids _ hs, reach, REACH]
  have h1 : lent.any (List.contains ([] : List Nat)) = false := by simp
  simp only [h1, mapAll, List.map_nil, stillAll_ren _ _ hs, hc, AV.still_ren _ _ hv, chk, giveBack, rowsAny, List.length_nil, Nat.le_refl, decide_true, Bool.true_and, Nat.zero_le, Bool.or_false]
  cases hr : hasRows v with
  | false => rfl
  | true =>
    rw [hr] at hl
    simp at hl
    subst hl
    rfl

/-- The same for a function that is lent one variable. -/
theorem finish1p {fn : Func} {t ty : Nat} {k : K} {d : k.D} {s : St} {cells : List AV} (hr : fn.results.toList = [.tmp t]) (ht : fn.resultTypes.toList = [ty]) (hk : (cx.ty ty).map Ty.kind = some (some k)) (hs : s.slots t = .data k d) (hb : s.heap 0 = some (.box cells)) (hc : stillAll cells = true) :
    finish cx fn [] 1 s = some (.data k d, [some (.box cells)]) := by
  unfold finish
  have hfr : freeze s.heap [] = s.heap := rfl
  cases hfl : k.flatRows <;> simp [hfl, hr, ht, mapAll, finishV, hk, hs, asData_data, AV.ids, freeze, finishAt, oneOf, reach, REACH, notFrozen, hb, List.range, List.range.loop, Root.ids, stillAll_ids _ hc, AV.ren, Root.ren, stillAll_ren _ _ hc]
theorem fn_wpp {f : FuncId} {fn : Func} {c : Code} {args : List AV} {r : AV} {root : Root} {Q : Ex → St → Prop} (hf : cx.fn f = some fn) (hb : fn.body = some c) (hh : (cx.hint f).keep = []) (hnm : namesOk (cx.hint f) 1 = true)
    (hw : WP cx (cx.hint f) (evalLim cx) fn.ntmps c Q ⟨argsFrom 0 args, heapFrom 0 [some root], 1⟩) (hQ : ∀ ex s, Q ex s → (ex = .norm ∨ ex = .ret) ∧ finish cx fn [] 1 s = some (r, [some root])) : evalLim cx f args [root] = some (r, [some root]) := by
  obtain ⟨k, ex, s, he, hq⟩ := hw
  obtain ⟨hx, hfin⟩ := hQ ex s hq
  exact fn_ok (roots := [root]) hf hb hnm he hx (by rw [hh]; exact hfin)
theorem upd_self {α : Type} {r : Nat} {v : α} {H : Nat → α} (h : H r = v) : upd r v H = H := by
  funext j
  unfold upd
  split
  · rename_i hj; rw [hj, h]
  · rfl
/-- A call with one value and the address of a variable. -/
theorem doCall_ptr {f : FuncId} {fn : Func} {c : Code} {a : AV} {r : Nat} {cells : List AV} {H : Heap} {nid : Nat} {v : AV} (hf : cx.fn f = some fn) (hb : fn.body = some c)
    (ho : handOver cx H (cx.hint f).own 0 fn.params.toList [a, .ptr r 0] = some ([a, .ptr r 0], [])) (hs : a.still = true) (hv : v.still = true) (hr : H r = some (.box cells)) (hcl : stillAll cells = true) (hc : F f [a, .ptr 0 0] [.box cells] = some (v, [some (.box cells)])) : doCall cx F f [a, .ptr r 0] H nid = some (v, H) := by
  unfold doCall
  have hi : idsAll [a, .ptr r 0] = [r] := by simp [idsAll, AV.still_ids _ hs, AV.ids]
  have hre : reach H REACH [r] [] = some [r] := by simp [reach, REACH, hr, Root.ids, stillAll_ids _ hcl]
  simp only [hf, hb, ho, hi, hre]
  have h1 : ([] : List Nat).any (List.contains [r]) = false := rfl
  have h2 : mapAll H [r] = some [.box cells] := by simp [mapAll, hr]
  have h3 : renAll (pos? [r]) [a, .ptr r 0] = [a, .ptr 0 0] := by simp [renAll, AV.still_ren _ _ hs, AV.ren, pos?]
  have h4 : [Root.box cells].map (Root.ren (pos? [r])) = [.box cells] := by simp [Root.ren, stillAll_ren _ _ hcl]
  simp only [h1, h2, h3, h4, hc, AV.still_ren _ _ hv, chk, List.length_cons, List.length_nil, Nat.le_refl, decide_true, Bool.true_and]
  have h5 : giveBack (backName [r] nid 1) 0 [some (.box cells)] H = H := by
    simp only [giveBack, backName, get?, Option.map, Root.ren, stillAll_ren _ _ hcl]
    exact upd_self hr
  cases hasRows v || rowsAny [some (Root.box cells)] <;> simp [freeze, h5]
end
end Go.Lite
end

section
/-
  LITE 73: drawing regions whose operations do not meet.
-/
set_option linter.unusedVariables false
set_option linter.unusedSimpArgs false
namespace Go.Lite
open Go

def statCls (o : Oper) : Cls := match o.op with
  | .move _ | .assign _ | .pick .. | .unOp .. | .binOp .. | .extract .. | .nilCheck .. | .field .. | .build .. | .index .. | .makeInterface .. | .makeFunc .. => .pure
  | .fieldAddr .. | .load .. | .indexAddr .. | .slice .. | .convert .. | .lookup .. => .read
  | .call ⟨.builtin .len, _, _⟩ => .read
  | .alloc .. | .box .. | .makeSlice .. => .make
  | _ => .chg
def okStat : Cls → Cls → Bool
  | .pure, _ | _, .pure => true
  | .read, .read | .read, .make | .make, .make | .chg, .make => true
  | _, _ => false
def easyGo : Nat → List (List Nat) → List Oper → Option (List (Oper × List Nat))
  | _, _, [] => some []
  | i, prs, o :: l => match predsOf prs i o.after.toList with
    | some pr => match easyGo (i + 1) (prs ++ [pr]) l with
      | some r => some ((o, pr) :: r)
      | none => none
    | none => none
def easyPairs (ops : Array Oper) : Nat → List (Oper × List Nat) → Bool
  | _, [] => true
  | i, a :: l => l.all (fun b => b.2.contains i || (a.1.apart ops b.1 && okStat (statCls a.1) (statCls b.1))) && easyPairs ops (i + 1) l
def easy (ops : Array Oper) : Bool := match easyGo 0 [] ops.toList with
  | some l => easyPairs ops 0 l
  | none => false

section
variable {cx : Cx} {h : Hint} {F : CallF} {nt : Nat}
def clsLe (a b : Cls) : Bool := a == .pure || a == b || (a == .make && b == .chg)
theorem clsOp_le (hg : h.grow = []) (s : Slots) (o : Oper) : clsLe (clsOp cx h s o) (statCls o) = true := by
  have hgr : ∀ t, growFl h t = none := fun t => by unfold growFl; rw [hg]; rfl
  unfold clsOp statCls
  cases o.op with
  | move x => simp only [hgr]; split <;> rfl
  | assign x => simp only [hgr]; split <;> rfl
  | buildSlice t n ps => dsimp only; split <;> rfl
  | call c =>
    obtain ⟨cal, a, b⟩ := c
    cases cal with
    | builtin b => cases b <;> rfl
    | _ => rfl
  | _ => rfl
theorem pairOk_stat (hg : h.grow = []) {ops : Array Oper} {a b : Rec} (hap : a.o.apart ops b.o = true) (hok : okStat (statCls a.o) (statCls b.o) = true) : pairOk cx h F ops a b = true := by
  have key : ∀ r : Rec, clsLe (r.cls cx h) (statCls r.o) = true := by
    intro r
    unfold Rec.cls
    cases r.w with
    | true => exact clsOp_le hg _ _
    | false => rfl
  unfold pairOk
  rw [hap, Bool.true_and]
  have h1 := key a
  have h2 := key b
  revert h1 h2 hok
  generalize a.cls cx h = ca
  generalize b.cls cx h = cb
  generalize statCls a.o = sa
  generalize statCls b.o = sb
  cases ca <;> cases cb <;> cases sa <;> cases sb <;> (intro h3 h1 h2; first | rfl | exact absurd h3 (by decide) | exact absurd h1 (by decide) | exact absurd h2 (by decide))
theorem pairsOk_stat (hg : h.grow = []) {ops : Array Oper} : ∀ {t : List Rec} {i : Nat}, easyPairs ops i (t.map fun r => (r.o, r.pr)) = true → pairsOk cx h F ops i t = true
  | [], i, he => rfl
  | a :: l, i, he => by
    simp only [List.map_cons, easyPairs, Bool.and_eq_true, List.all_eq_true, List.mem_map, forall_exists_index, and_imp, Bool.or_eq_true] at he
    simp only [pairsOk, Bool.and_eq_true, List.all_eq_true, Bool.or_eq_true]
    refine ⟨fun b hb => ?_, pairsOk_stat hg he.2⟩
    rcases he.1 _ b hb rfl with hc | hc
    · exact .inl hc
    · exact .inr (pairOk_stat hg hc.1 hc.2)
theorem traceOps_stat {ops : Array Oper} : ∀ {l : List Oper} {i : Nat} {prs : List (List Nat)} {s s' : St} {r : List (Oper × List Nat)}, easyGo i prs l = some r → evalOps cx h F nt ops l s = some s' → ∃ t, traceOps cx h F nt ops i prs l s = some (t, s') ∧ t.map (fun r => (r.o, r.pr)) = r
  | [], i, prs, s, s', r, hr, he => by
    cases hr; cases he
    exact ⟨[], rfl, rfl⟩
  | o :: l, i, prs, s, s', r, hr, he => by
    simp only [easyGo] at hr
    split at hr
    · rename_i pr hpr
      split at hr
      · rename_i r1 hr1
        cases hr
        simp only [evalOps] at he
        split at he
        · cases he
        · cases he
        · rename_i hd hask
          split at he
          · rename_i res hres
            obtain ⟨t, ht, hm⟩ := traceOps_stat hr1 he
            refine ⟨⟨o, true, s, res.v, res.H, pr⟩ :: t, ?_, ?_⟩
            · simp only [traceOps, hd, hask, hpr, hres, ht]
            · simp [hm]
          · cases he
        · rename_i b hd hask
          cases b with
          | true =>
            simp only [ite'] at he
            split at he
            · rename_i res hres
              obtain ⟨t, ht, hm⟩ := traceOps_stat hr1 he
              refine ⟨⟨o, true, s, res.v, res.H, pr⟩ :: t, ?_, ?_⟩
              · simp only [traceOps, hd, hask, hpr, ite', hres, ht]
              · simp [hm]
            · cases he
          | false =>
            simp only [ite'] at he
            obtain ⟨t, ht, hm⟩ := traceOps_stat hr1 he
            refine ⟨⟨o, false, s, .skip, s.heap, pr⟩ :: t, ?_, ?_⟩
            · simp only [traceOps, hd, hask, hpr, ite', ht]
            · simp [hm]
      · cases hr
    · cases hr

theorem drawn_easy (hg : h.grow = []) {ops : Array Oper} (hy : easy ops = true) {s s' : St} (he : evalOps cx h F nt ops ops.toList s = some s') : evalDrawn cx h F nt ops s = some s' := by
  unfold easy at hy
  split at hy
  · rename_i l hl
    obtain ⟨t, ht, hm⟩ := traceOps_stat hl he
    unfold evalDrawn
    simp only [ht]
    rw [pairsOk_stat hg (by rw [hm]; exact hy)]
    rfl
  · cases hy

variable {Q : Ex → St → Prop} {s : St}
theorem wp_drawn (hg : h.grow = []) {id} {ops : Array Oper} (hc : noCut h id = true) (hy : easy ops = true) (hq : WO cx h F nt ops ops.toList (Q .norm) s) : WP cx h F nt (.region id ops true) Q s := by
  obtain ⟨s1, he, hq⟩ := hq
  exact ⟨0, _, s1, by simp only [evalCode, (noCut_none hc _).1, drawn_easy hg hy he, (noCut_none hc _).2], hq⟩
theorem wp_drw (hg : h.grow = []) {id} {ops : Array Oper} (hc : noCut h id = true) (hy : easy ops = true) {b : Code} (hq : ∀ P : St → Prop, (∀ s1, WP cx h F nt b Q s1 → P s1) → WO cx h F nt ops ops.toList P s) : WP cx h F nt (.seq (.region id ops true) b) Q s :=
  wp_seq (wp_drawn hg hc hy (hq _ fun _ h => h))
theorem wp_drw1 (hg : h.grow = []) {id} {ops : Array Oper} (hc : noCut h id = true) (hy : easy ops = true) (hq : ∀ P : St → Prop, (∀ s1, Q .norm s1 → P s1) → WO cx h F nt ops ops.toList P s) : WP cx h F nt (.region id ops true) Q s :=
  wp_drawn hg hc hy (hq _ fun _ h => h)
end
end Go.Lite
end

section
/-
  LITE 74: one operation at a time.
-/
set_option linter.unusedVariables false
set_option linter.unusedSimpArgs false
namespace Go.Lite
open Go

/-- An operation's answer, and what is to hold then. -/
def RQ (r : Option Res) (R : AV → Heap → Prop) : Prop := match r with
  | some r => R r.v r.H
  | none => False
theorem RQ_some {v : AV} {H : Heap} {R : AV → Heap → Prop} : RQ (some ⟨v, H⟩) R ↔ R v H := Iff.rfl

section
variable {cx : Cx} {h : Hint} {F : CallF} {nt : Nat} {ops : Array Oper} {l : List Oper} {P : St → Prop} {sl : Slots} {H : Heap} {nx : Nat} {op : Op} {ty : TypeId} {pos : String} {after : Array Edge}

theorem wo_put {d : Nat} (hd : decide (d < nt) = true) (hq : ∀ R : AV → Heap → Prop, (∀ v H', WO cx h F nt ops l P ⟨upd d v sl, H', nx + 8⟩ → R v H') → RQ (evalOp cx h F ⟨some d, op, ty, pos, after, none⟩ ⟨sl, H, nx⟩ nx) R) :
    WO cx h F nt ops (⟨some d, op, ty, pos, after, none⟩ :: l) P ⟨sl, H, nx⟩ := by
  have hq := hq _ fun v H' h => h
  cases he : evalOp cx h F ⟨some d, op, ty, pos, after, none⟩ ⟨sl, H, nx⟩ nx with
  | none => rw [he] at hq; exact hq.elim
  | some r =>
    rw [he] at hq
    obtain ⟨s1, h1, h2⟩ : WO cx h F nt ops l P ⟨upd d r.v sl, r.H, nx + 8⟩ := hq
    refine ⟨s1, ?_, h2⟩
    simp only [evalOps, hd, asked, he]
    exact h1
theorem wo_do (hq : ∀ R : AV → Heap → Prop, (∀ v H', WO cx h F nt ops l P ⟨sl, H', nx + 8⟩ → R v H') → RQ (evalOp cx h F ⟨none, op, ty, pos, after, none⟩ ⟨sl, H, nx⟩ nx) R) :
    WO cx h F nt ops (⟨none, op, ty, pos, after, none⟩ :: l) P ⟨sl, H, nx⟩ := by
  have hq := hq _ fun v H' h => h
  cases he : evalOp cx h F ⟨none, op, ty, pos, after, none⟩ ⟨sl, H, nx⟩ nx with
  | none => rw [he] at hq; exact hq.elim
  | some r =>
    rw [he] at hq
    obtain ⟨s1, h1, h2⟩ : WO cx h F nt ops l P ⟨sl, r.H, nx + 8⟩ := hq
    refine ⟨s1, ?_, h2⟩
    simp only [evalOps, asked, he]
    exact h1
theorem wo_putg {d j : Nat} {want : Bool} (hd : decide (d < nt) = true) (hjs : ∃ g, (ops[j]?).bind (·.dst) = some g ∧ sl g = .data .bool want) (hq : ∀ R : AV → Heap → Prop, (∀ v H', WO cx h F nt ops l P ⟨upd d v sl, H', nx + 8⟩ → R v H') → RQ (evalOp cx h F ⟨some d, op, ty, pos, after, some (j, want)⟩ ⟨sl, H, nx⟩ nx) R) :
    WO cx h F nt ops (⟨some d, op, ty, pos, after, some (j, want)⟩ :: l) P ⟨sl, H, nx⟩ := by
  obtain ⟨g, hj, hs⟩ := hjs
  have hq := hq _ fun v H' h => h
  cases he : evalOp cx h F ⟨some d, op, ty, pos, after, some (j, want)⟩ ⟨sl, H, nx⟩ nx with
  | none => rw [he] at hq; exact hq.elim
  | some r =>
    rw [he] at hq
    obtain ⟨s1, h1, h2⟩ : WO cx h F nt ops l P ⟨upd d r.v sl, r.H, nx + 8⟩ := hq
    refine ⟨s1, ?_, h2⟩
    have hb : (want == want) = true := by cases want <;> rfl
    have ha : asked ops sl ⟨some d, op, ty, pos, after, some (j, want)⟩ = some (some true) := by simp only [asked, hj, hs, hb]
    simp only [evalOps, hd, ha, ite', he]
    exact h1
theorem wo_dog {j : Nat} {want : Bool} (hjs : ∃ g, (ops[j]?).bind (·.dst) = some g ∧ sl g = .data .bool want) (hq : ∀ R : AV → Heap → Prop, (∀ v H', WO cx h F nt ops l P ⟨sl, H', nx + 8⟩ → R v H') → RQ (evalOp cx h F ⟨none, op, ty, pos, after, some (j, want)⟩ ⟨sl, H, nx⟩ nx) R) :
    WO cx h F nt ops (⟨none, op, ty, pos, after, some (j, want)⟩ :: l) P ⟨sl, H, nx⟩ := by
  obtain ⟨g, hj, hs⟩ := hjs
  have hq := hq _ fun v H' h => h
  cases he : evalOp cx h F ⟨none, op, ty, pos, after, some (j, want)⟩ ⟨sl, H, nx⟩ nx with
  | none => rw [he] at hq; exact hq.elim
  | some r =>
    rw [he] at hq
    obtain ⟨s1, h1, h2⟩ : WO cx h F nt ops l P ⟨sl, r.H, nx + 8⟩ := hq
    refine ⟨s1, ?_, h2⟩
    have hb : (want == want) = true := by cases want <;> rfl
    have ha : asked ops sl ⟨none, op, ty, pos, after, some (j, want)⟩ = some (some true) := by simp only [asked, hj, hs, hb]
    simp only [evalOps, ha, ite', he]
    exact h1
/-- Not asked for: the guard says the other, or is itself not asked for. -/
def off (v : AV) (want : Bool) : Prop := v = .data .bool (!want) ∨ v = .skip
theorem off_t {want : Bool} {v : AV} (h : v = .data .bool (!want)) : off v want := .inl h
theorem off_s {want : Bool} {v : AV} (h : v = .skip) : off v want := .inr h
theorem wo_putn {d j : Nat} {want : Bool} (hd : decide (d < nt) = true) (hjs : ∃ g, (ops[j]?).bind (·.dst) = some g ∧ off (sl g) want) (hq : WO cx h F nt ops l P ⟨upd d .skip sl, H, nx + 8⟩) :
    WO cx h F nt ops (⟨some d, op, ty, pos, after, some (j, want)⟩ :: l) P ⟨sl, H, nx⟩ := by
  obtain ⟨g, hj, hs⟩ := hjs
  obtain ⟨s1, h1, h2⟩ := hq
  refine ⟨s1, ?_, h2⟩
  have ha : asked ops sl ⟨some d, op, ty, pos, after, some (j, want)⟩ = some (some false) := by
    simp only [asked, hj]
    rcases hs with hs | hs
    · rw [hs]; cases want <;> rfl
    · rw [hs]
  simp only [evalOps, hd, ha, ite']
  exact h1
theorem wo_don {j : Nat} {want : Bool} (hjs : ∃ g, (ops[j]?).bind (·.dst) = some g ∧ off (sl g) want) (hq : WO cx h F nt ops l P ⟨sl, H, nx + 8⟩) :
    WO cx h F nt ops (⟨none, op, ty, pos, after, some (j, want)⟩ :: l) P ⟨sl, H, nx⟩ := by
  obtain ⟨g, hj, hs⟩ := hjs
  obtain ⟨s1, h1, h2⟩ := hq
  refine ⟨s1, ?_, h2⟩
  have ha : asked ops sl ⟨none, op, ty, pos, after, some (j, want)⟩ = some (some false) := by
    simp only [asked, hj]
    rcases hs with hs | hs
    · rw [hs]; cases want <;> rfl
    · rw [hs]
  simp only [evalOps, ha, ite']
  exact h1
theorem wo_end (hq : P ⟨sl, H, nx⟩) : WO cx h F nt ops [] P ⟨sl, H, nx⟩ := ⟨_, rfl, hq⟩
end
end Go.Lite
end
