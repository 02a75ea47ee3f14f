/-
  A part of the proof: L18, L19, L20, L21, L22, L23, L24, L25, L26, L27, L28, L29, L30, L31, L32, L33, L34, L35, L36, L37, L38, L39, L40, L41, L42, L43, L44.
-/
import Derived.Great.BuildSlice
import Derived.Deep.AppendSrc
import Derived.Deep.Upon
import Derived.Test.YtlbignphgpadaaaX1
section
/-
  LITE 18: literals and new variables.
-/
set_option linter.unusedVariables false
set_option linter.unusedSimpArgs false
namespace Go.Lite
open Go Go.RowKit

theorem oneAV_rel {E : Env} {a : AV} {v : Value} (h : oneAV a = true) (hv : RelV E a v) : v.oneCell' = true ∧ v.cells = #[v] := by
  have one : ∀ (k : K) (d : k.D), k.isAgg = false → RepC E.S E.w k d [v] → v.oneCell' = true ∧ v.cells = #[v] := by
    intro k d hk h
    cases k with
    | int _ => simp only [RepC] at h; injection h with h _; subst h; exact ⟨rfl, rfl⟩
    | bool => simp only [RepC] at h; injection h with h _; subst h; exact ⟨rfl, rfl⟩
    | str => simp only [RepC] at h; injection h with h _; subst h; exact ⟨rfl, rfl⟩
    | slice k => obtain ⟨A, c, h, _⟩ := h; injection h with h _; subst h; exact ⟨rfl, rfl⟩
    | _ => cases hk
  cases a with
  | undef => cases h
  | skip => cases h
  | data k d =>
    have hk : k.isAgg = false := by simpa [oneAV] using h
    simp only [RelV, hk] at hv
    exact one k d hk hv
  | lit k l => obtain ⟨A, rfl, _⟩ := hv; exact ⟨rfl, rfl⟩
  | nilS t => obtain rfl : v = .slice none 0 0 := hv; exact ⟨rfl, rfl⟩
  | nilV u =>
    obtain rfl : v = u := hv
    simp only [oneAV] at h
    unfold plainNil at h
    split at h <;> first | exact ⟨rfl, rfl⟩ | cases h
  | agg l => cases h
  | tuple l => cases h
  | ptr r off => obtain ⟨g, rfl, _⟩ := hv; exact ⟨rfl, rfl⟩
  | «at» k d => obtain ⟨a, cs, rfl, _⟩ := hv; exact ⟨rfl, rfl⟩
  | sl r ver p off len => obtain ⟨_, _, ⟨A, c, rfl, _⟩, _⟩ := hv; exact ⟨rfl, rfl⟩
  | el r ver p i fs => obtain ⟨_, ⟨a, rfl⟩, _⟩ := hv; exact ⟨rfl, rfl⟩
  | fn f caps => obtain ⟨vs, rfl, _⟩ := hv; exact ⟨rfl, rfl⟩
  | mp r => obtain ⟨g, rfl, _⟩ := hv; exact ⟨rfl, rfl⟩
  | it r => obtain ⟨g, rfl, _⟩ := hv; exact ⟨rfl, rfl⟩
  | iface t u => obtain ⟨x, rfl, _⟩ := hv; exact ⟨rfl, rfl⟩

theorem flatAll_one {k : K} (ih : ∀ d : k.D, (k.flat d).all oneAV = true) : ∀ l : List k.D, (flatAll k.flat l).all oneAV = true
  | [] => rfl
  | x :: l => by simp only [flatAll, List.all_append, ih x, flatAll_one ih l]; rfl
theorem flat_one (k : K) : ∀ d : k.D, (k.flat d).all oneAV = true := by
  induction k with
  | array n k ih => exact fun d => flatAll_one ih d
  | pair a b iha ihb => intro d; simp only [K.flat, List.all_append, iha, ihb]; rfl
  | _ => intro d; rfl

theorem cellsOf_rel {E : Env} {a : AV} {cs : List AV} {v : Value} (h : cellsOf a = some cs) (hv : RelV E a v) :
    All2 (RelV E) cs v.cells.toList ∧ cs.all oneAV = true ∧ ∀ q ∈ idsAll cs, q ∈ a.ids := by
  have one : oneAV a = true → cs = [a] → All2 (RelV E) cs v.cells.toList ∧ cs.all oneAV = true ∧ ∀ q ∈ idsAll cs, q ∈ a.ids := by
    rintro h1 rfl
    rw [(oneAV_rel h1 hv).2]
    exact ⟨⟨hv, trivial⟩, by simp [h1], by simp [idsAll]⟩
  unfold cellsOf at h
  split at h
  · rename_i k d
    injection h with h
    cases hk : k.isAgg with
    | true =>
      rw [hk] at h
      subst h
      obtain ⟨hr, _, _⟩ := relV_data.1 hv
      exact ⟨flat_rel k d _ hr, flat_one k d, by simp [flat_ids]⟩
    | false =>
      rw [hk] at h
      exact one (by simp [oneAV, hk]) h.symm
  · rename_i l
    split at h
    · rename_i hall
      injection h with h
      subst h
      obtain ⟨vs, rfl, hl⟩ := hv
      exact ⟨RelAll.iff.1 hl, hall, fun q hq => hq⟩
    · cases h
  · cases h
  · cases h
  · cases h
  · rename_i u
    split at h
    · rename_i hu
      injection h with h
      exact one hu h.symm
    · cases h
  · rename_i h1 h2 h3 h4 h5 h6
    injection h with h
    refine one ?_ h.symm
    cases a <;> first | rfl | exact absurd rfl (h1 _ _) | exact absurd rfl (h2 _) | exact absurd rfl (h3 _) | exact absurd rfl h4 | exact absurd rfl h5 | exact absurd rfl (h6 _)

theorem all2_one {E : Env} : ∀ {cs : List AV} {vs : List Value}, cs.all oneAV = true → All2 (RelV E) cs vs → ∀ v ∈ vs, v.oneCell' = true
  | [], [], _, _, v, hv => by cases hv
  | c :: cs, v :: vs, h, ha, x, hx => by
    simp only [List.all_cons, Bool.and_eq_true] at h
    rcases List.mem_cons.1 hx with rfl | hx
    · exact (oneAV_rel h.1 ha.1).1
    · exact all2_one h.2 ha.2 x hx
  | [], _ :: _, _, ha, _, _ => ha.elim
  | _ :: _, [], _, ha, _, _ => ha.elim

/-! ### Zero values -/
theorem sameVal_eq {a b : Value} (h : sameVal a b = true) : a = b := by
  unfold sameVal at h
  split at h
  · simp only [Bool.and_eq_true, beq_iff_eq] at h; obtain ⟨rfl, rfl⟩ := h; rfl
  · simp only [beq_iff_eq] at h; subst h; rfl
  · rename_i a b
    have h := eq_of_beq h
    cases a with | mk a => cases b with | mk b => simp only at h; congr 2; exact Array.ext' h
  · rfl
  · cases h
theorem sameVals_eq : ∀ {l m : List Value}, sameVals l m = true → l = m
  | [], [], _ => rfl
  | a :: l, b :: m, h => by
    simp only [sameVals, Bool.and_eq_true] at h
    rw [sameVal_eq h.1, sameVals_eq h.2]
  | [], _ :: _, h => by cases h
  | _ :: _, [], h => by cases h
theorem all2_replicate {S : Nat → Prop} {w : World} {k : K} {x : k.D} {vs : List Value} (h : RepC S w k x vs) : ∀ n, All2 (RepC S w k) (List.replicate n x) (List.replicate n vs)
  | 0 => trivial
  | n + 1 => ⟨h, all2_replicate h n⟩
theorem zero_rep {S : Nat → Prop} {w : World} (k : K) : RepC S w k k.zero k.zeroVals := by
  induction k with
  | int _ => rfl
  | bool => rfl
  | str => rfl
  | unit => rfl
  | slice k _ => exact ⟨none, 0, rfl, Nat.le_refl _, .inl rfl⟩
  | array n k ih => exact ⟨List.length_replicate, _, rfl, all2_replicate ih n⟩
  | pair a b iha ihb => exact ⟨_, _, rfl, iha, ihb⟩
theorem KindIs.zero {P : Program} {n : Nat} {t : TypeId} {k : K} (h : KindIs P n t k) : ∃ info v, P.info? t = some info ∧ info.zero = some v ∧ info.size = k.sz ∧ ∀ S w, RepC S w k k.zero v.cells.toList := by
  obtain ⟨info, d, v, h1, h2, h3, h4, h5, h6, _⟩ := h.out
  exact ⟨info, v, h1, h5, h4, fun S w => by rw [← sameVals_eq h6]; exact zero_rep k⟩

theorem avIs_rel {E : Env} {a : AV} {v : Value} (h : avIs a v = true) : RelV E a v ∧ a.ids = [] ∧ oneAV a = true := by
  unfold avIs at h
  split at h
  · simp only [Bool.and_eq_true, beq_iff_eq] at h; obtain ⟨rfl, rfl⟩ := h; exact ⟨relV_int.2 rfl, rfl, rfl⟩
  · simp only [beq_iff_eq] at h; subst h; exact ⟨relV_bool.2 rfl, rfl, rfl⟩
  · rename_i a b
    have h := eq_of_beq h
    refine ⟨relV_str.2 ?_, rfl, rfl⟩
    cases a with | mk a => cases b with | mk b => simp only at h; congr 2; exact (Array.ext' h).symm
  · exact ⟨rfl, rfl, rfl⟩
  · exact ⟨rfl, rfl, rfl⟩
  · exact ⟨rfl, rfl, rfl⟩
  · exact ⟨rfl, rfl, rfl⟩
  · exact ⟨rfl, rfl, rfl⟩
  · cases h
theorem avsAre_rel {E : Env} : ∀ {l : List AV} {m : List Value}, avsAre l m = true → All2 (RelV E) l m ∧ idsAll l = [] ∧ l.all oneAV = true
  | [], [], _ => ⟨trivial, rfl, rfl⟩
  | a :: l, b :: m, h => by
    simp only [avsAre, Bool.and_eq_true] at h
    obtain ⟨h1, h2, h3⟩ := avIs_rel (E := E) h.1
    obtain ⟨h4, h5, h6⟩ := avsAre_rel (E := E) h.2
    exact ⟨⟨h1, h4⟩, by simp [idsAll, h2, h5], by simp [h3, h6]⟩
  | [], _ :: _, h => by cases h
  | _ :: _, [], h => by cases h
theorem zero_some {P : Program} {E : Env} {t : TypeId} {l : List AV} (h : zeroOf P t = some l) : ∃ info v, P.info? t = some info ∧ info.zero = some v ∧ All2 (RelV E) l v.cells.toList ∧ idsAll l = [] ∧ l.all oneAV = true ∧ l.length = info.size := by
  unfold zeroOf at h
  split at h
  · rename_i info l' hi _
    split at h
    · rename_i v hv
      split at h
      · rename_i hc
        injection h with h
        subst h
        simp only [Bool.and_eq_true, beq_iff_eq] at hc
        obtain ⟨h1, h2, h3⟩ := avsAre_rel (E := E) hc.1
        exact ⟨info, v, hi, hv, h1, h2, h3, hc.2⟩
      · cases h
    · cases h
  · cases h

/-! ### Parts over a zero value -/
theorem foldl_set (off : Nat) : ∀ (vs : List Value) (j : Nat) (cells : Array Value), off + j + vs.length ≤ cells.size →
    ((vs.zipIdx j).foldl (fun cs (x : Value × Nat) => cs.setIfInBounds (off + x.2) x.1) cells).toList = cells.toList.take (off + j) ++ vs ++ cells.toList.drop (off + j + vs.length)
  | [], j, cells, _ => by simp
  | v :: vs, j, cells, h => by
    simp only [List.zipIdx_cons, List.foldl_cons]
    simp only [List.length_cons] at h
    rw [foldl_set off vs (j + 1) _ (by simp; omega)]
    have e := list_seg_step cells.toList (off + j) v vs (by simp; omega)
    simp only [Array.toList_setIfInBounds, List.length_cons]
    rw [show off + (j + 1) = off + j + 1 by omega]
    exact e

theorem all2_setCells {E : Env} {z cs : List AV} {zs vs : List Value} {o : Nat} (hz : All2 (RelV E) z zs) (hc : All2 (RelV E) cs vs) : All2 (RelV E) (setCells z o cs) (zs.take o ++ vs ++ zs.drop (o + vs.length)) := by
  unfold setCells
  rw [hc.length]
  exact All2.append (All2.append (hz.take o) hc) (hz.drop _)
theorem setCells_ids {z cs : List AV} {o : Nat} : ∀ q ∈ idsAll (setCells z o cs), q ∈ idsAll z ∨ q ∈ idsAll cs := by
  intro q hq
  unfold setCells at hq
  rw [idsAll_append, idsAll_append] at hq
  rcases List.mem_append.1 hq with h | h
  · rcases List.mem_append.1 h with h | h
    · obtain ⟨c, hc, hq⟩ := idsAll_mem h; exact .inl (idsAll_of_mem (List.mem_of_mem_take hc) q hq)
    · exact .inr h
  · obtain ⟨c, hc, hq⟩ := idsAll_mem h; exact .inl (idsAll_of_mem (List.mem_of_mem_drop hc) q hq)
theorem setCells_one {z cs : List AV} {o : Nat} (hz : z.all oneAV = true) (hc : cs.all oneAV = true) : (setCells z o cs).all oneAV = true := by
  unfold setCells
  simp only [List.all_append, Bool.and_eq_true, hc, and_true]
  rw [List.all_eq_true] at hz ⊢
  refine ⟨fun x hx => hz x (List.mem_of_mem_take hx), ?_⟩
  rw [List.all_eq_true]
  exact fun x hx => hz x (List.mem_of_mem_drop hx)

theorem fill_rel {E : Env} {place : Nat → Option (Nat × Nat)} : ∀ (ps : List (Nat × AV)) (vps : List (Nat × Value)) (z : List AV) (zs : Array Value) (cs : List AV), All2 (fun p q => p.1 = q.1 ∧ RelV E p.2 q.2) ps vps → All2 (RelV E) z zs.toList → z.all oneAV = true →
    fillParts place z ps = some cs → ∃ rs, Instr.fill place zs vps = some rs ∧ All2 (RelV E) cs rs.toList ∧ cs.all oneAV = true ∧ ∀ q ∈ idsAll cs, q ∈ idsAll z ∨ ∃ p ∈ ps, q ∈ p.2.ids
  | [], [], z, zs, cs, _, hz, h1, h => by
    simp only [fillParts, Option.some.injEq] at h
    subst h
    exact ⟨zs, rfl, hz, h1, fun q hq => .inl hq⟩
  | (i, a) :: ps, (j, v) :: vps, z, zs, cs, hp, hz, h1, h => by
    obtain ⟨⟨hij, hv⟩, hp⟩ := hp
    simp only at hij hv
    subst hij
    simp only [fillParts] at h
    split at h
    · rename_i o sz cs' hpl hcs
      split at h
      · rename_i hc
        simp only [Bool.and_eq_true, beq_iff_eq, decide_eq_true_eq] at hc
        obtain ⟨r1, r2, r3⟩ := cellsOf_rel hcs hv
        have hl := r1.length
        have hzl := hz.length
        have hl2 : v.cells.toList.length = v.cells.size := Array.length_toList
        have hzl2 : zs.toList.length = zs.size := Array.length_toList
        have hfold := foldl_set o v.cells.toList 0 zs (by omega)
        rw [Nat.add_zero] at hfold
        obtain ⟨rs, h2, h3, h4, h5⟩ := fill_rel ps vps (setCells z o cs') ((v.cells.toList.zipIdx 0).foldl (fun cs (x : Value × Nat) => cs.setIfInBounds (o + x.2) x.1) zs) cs hp
          (by rw [hfold]; exact all2_setCells hz r1) (setCells_one h1 r2) h
        refine ⟨rs, ?_, h3, h4, fun q hq => ?_⟩
        · simp only [Instr.fill, hpl]
          rw [if_neg (by simp; omega)]
          rw [← h2]
          congr 1
          rw [← Array.foldl_toList, Array.toList_zipIdx]
        · rcases h5 q hq with h | ⟨p, hp, hq⟩
          · rcases setCells_ids q h with h | h
            · exact .inl h
            · exact .inr ⟨(i, a), by simp, r3 q h⟩
          · exact .inr ⟨p, by simp [hp], hq⟩
      · cases h
    · cases h
  | [], _ :: _, _, _, _, h, _, _, _ => h.elim
  | _ :: _, [], _, _, _, h, _, _, _ => h.elim

section
variable {P : Program} {hint : Nat → Hint} {glob : Nat → Option Comp} {E : Env} {n : Nat → Prop}

theorem placesOf_some : ∀ (fs : List Field) (pl : List (Nat × Nat)), placesOf (mkCx P hint glob) (fs.map fun f => (f.offset, f.type)) = some pl → fs.mapM (fun f => (P.info? f.type).map fun i => (f.offset, i.size)) = some pl
  | [], pl, h => by injection h with h; subst h; rfl
  | f :: fs, pl, h => by
    simp only [List.map_cons, placesOf] at h
    split at h
    · rename_i i r hi hr
      injection h with h
      subst h
      obtain ⟨info, _, h1, _, _, h4, _⟩ := ty_some hi
      have := placesOf_some fs r hr
      simp [List.mapM_cons, h1, this, h4]
    · cases h

theorem build_ok {t : TypeId} {ps : List (Nat × AV)} {vps : Array (Nat × Value)} {r : AV} (hp : All2 (fun p q => p.1 = q.1 ∧ RelV E p.2 q.2) ps vps.toList) (hn : ∀ p ∈ ps, ∀ q ∈ p.2.ids, n q) (h : build (mkCx P hint glob) t ps = some r) :
    ∃ v, (Instr.build t vps).run P E.w = .ok v E.w ∧ RelV E r v ∧ ∀ q ∈ r.ids, n q := by
  unfold build at h
  split at h
  · rename_i i z hi hz
    obtain ⟨info, d, h1, h2, h3, h4, h5, h6⟩ := ty_some hi
    obtain ⟨info', zv, z1, z2, z3, z4, z5, z6⟩ := zero_some (E := E) hz
    rw [h1] at z1
    injection z1 with z1
    subst z1
    have fin : ∀ (place : Nat → Option (Nat × Nat)) (cs : List AV), aggD d = true → fillParts place z ps = some cs → assemble i cs = some r → (∀ rs, Instr.fill place zv.cells vps.toList = some rs → P.built t vps.toList = some rs) →
        ∃ v, (Instr.build t vps).run P E.w = .ok v E.w ∧ RelV E r v ∧ ∀ q ∈ r.ids, n q := by
      intro place cs hd hf ha hb
      obtain ⟨rs, r1, r2, r3, r4⟩ := fill_rel (E := E) ps vps.toList z zv.cells cs hp z3 z5 hf
      obtain ⟨a1, a2, a3⟩ := assemble_ok hi h2 r2 ha
      refine ⟨.agg rs, run_build E.w t vps rs (hb rs r1), ?_, fun q hq => ?_⟩
      · simpa [valOf, hd] using a2
      · rcases r4 q (a3 q hq) with h | ⟨p, hp, hq⟩
        · rw [z4] at h; cases h
        · exact hn p hp q hq
    split at h
    · rename_i fs hfs
      rw [h3] at hfs
      obtain ⟨fs, rfl, rfl⟩ := td_inv.2.2.2.2.2.2.2.2 _ hfs
      split at h
      · rename_i pl hpl
        split at h
        · rename_i cs hcs
          refine fin _ cs rfl hcs h (fun rs hrs => ?_)
          have hm := placesOf_some _ _ hpl
          unfold Program.built
          simp only [h1, h2, z2, hm]
          rw [← hrs]
          congr 1
          funext j
          rw [get?_eq]
          simp
        · cases h
      · cases h
    · rename_i m e hfs
      rw [h3] at hfs
      have := td_inv.2.2.2.2.2.2.2.1 _ _ hfs
      subst this
      split at h
      · rename_i j hj
        split at h
        · rename_i cs hcs
          obtain ⟨infoj, _, hj1, _, _, hj4, _⟩ := ty_some hj
          refine fin _ cs rfl hcs h (fun rs hrs => ?_)
          unfold Program.built
          simp only [h1, h2, z2, hj1]
          rw [← hj4]
          exact hrs
        · cases h
      · cases h
    · cases h
  · cases h

theorem add_heap {E : Env} {m : Nat} {root : Root} {gr : GRoot} {o : Obj} : (E.add m root gr o).w.heap[E.w.heap.size]? = some o := by
  show (E.w.heap.push o)[E.w.heap.size]? = some o
  exact Array.getElem?_push_size
theorem newVar_run (t : TypeId) (v : Value) (w : World) : (newVar t v).run P w = .ok ⟨w.heap.size, 0, none⟩ { w with heap := w.heap.push (.cells v.cells t) } := rfl

theorem box_post {t : TypeId} {v : Value} {cs : List AV} {m : Nat} {n' : Nat → Prop} (hg : Good E n) (hm : ¬ n m) (hmn : (∀ q, n q → n' q) ∧ n' m) (hr : All2 (RelV E) cs v.cells.toList) (hi : ∀ q ∈ idsAll cs, n q) :
    Post E n ⟨.ptr m 0, upd m (some (.box cs)) E.H⟩ n' (.pointer (some ⟨E.w.heap.size, 0, none⟩)) (E.add m (.box cs) (.box E.w.heap.size) (.cells v.cells t)) := by
  refine add_post hg hm hmn (by simp [GRoot.blocks]) (by simp [GRoot.blocks]) (fun hx => ?_) (fun q hq => hmn.1 _ (hi q hq)) ?_ (by simpa [AV.ids] using hmn.2)
  · exact ⟨v.cells, t, add_heap, RelAll2.ext hx hi hr⟩
  · exact ⟨_, rfl, fun cells hc => by simp [Env.add, upd_same]⟩

theorem box_ok {t : TypeId} {x : AV} {vx : Value} {cs : List AV} {m : Nat} {n' : Nat → Prop} (hg : Good E n) (hm : ¬ n m) (hmn : (∀ q, n q → n' q) ∧ n' m) (hx : RelV E x vx) (hn : ∀ q ∈ x.ids, n q) (h : cellsOf x = some cs) :
    ∃ v E', (Instr.box t vx).run P E.w = .ok v E'.w ∧ Post E n ⟨.ptr m 0, upd m (some (.box cs)) E.H⟩ n' v E' := by
  obtain ⟨r1, r2, r3⟩ := cellsOf_rel h hx
  exact ⟨_, _, rfl, box_post hg hm hmn r1 (fun q hq => hn q (r3 q hq))⟩
theorem alloc_ok {t : TypeId} {old : Value} {cs : List AV} {m : Nat} {n' : Nat → Prop} (hg : Good E n) (hm : ¬ n m) (hmn : (∀ q, n q → n' q) ∧ n' m) (h : (mkCx P hint glob).zero t = some cs) :
    ∃ v E', (Instr.alloc t true old).run P E.w = .ok v E'.w ∧ Post E n ⟨.ptr m 0, upd m (some (.box cs)) E.H⟩ n' v E' := by
  obtain ⟨info, zv, z1, z2, z3, z4, z5, z6⟩ := zero_some (E := E) h
  refine ⟨_, _, ?_, box_post (t := t) (v := zv) hg hm hmn z3 (by simp [z4])⟩
  unfold Instr.alloc
  rw [Sem.run_bind, run_zeroValue_of z1 z2, Result.andThen_ok]
  rfl

theorem makeMap_ok {t : TypeId} {ka kb : K} {vr : Option Value} {m : Nat} {n' : Nat → Prop} (hg : Good E n) (hm : ¬ n m) (hmn : (∀ q, n q → n' q) ∧ n' m) (hk : keyKind ka = true) (hb : kb.flatRows = true) (ht : isMapT (mkCx P hint glob) t = true)
    (hr : vr = none ∨ ∃ k i, vr = some (.int k i)) : ∃ v E', (Instr.makeMap t vr).run P E.w = .ok v E'.w ∧ Post E n ⟨.mp m, upd m (some (.mp ka kb [])) E.H⟩ n' v E' := by
  refine ⟨.map (some E.w.heap.size), E.add m (.mp ka kb []) (.mp E.w.heap.size) (.map #[] 0), ?_, add_post hg hm hmn (by simp [GRoot.blocks]) (by simp [GRoot.blocks]) (fun hx => ⟨hk, hb, #[], 0, add_heap, trivial⟩) (by simp [Root.ids]) ⟨_, rfl, fun _ _ _ _ => by simp [Env.add, upd_same]⟩ (by simpa [AV.ids] using hmn.2)⟩
  obtain ⟨a, b, hu⟩ := isMapT_some ht
  unfold Instr.makeMap
  rcases hr with rfl | ⟨k, i, rfl⟩
  · rfl
  · simp [run_underlying hu, Go.asInt, asIntOf, Env.add]
end
end Go.Lite
end

section
/-
  LITE 19: steps one after another; freezing.
-/
set_option linter.unusedVariables false
set_option linter.unusedSimpArgs false
namespace Go.Lite
open Go Go.RowKit

theorem Skel.trans {a b c : T} (h : Skel a b) (h' : Skel b c) : Skel a c := fun q R hR => by
  obtain ⟨R1, h1, e1, e2, e3, e4⟩ := h' q R hR
  obtain ⟨R2, h2, f1, f2, f3, f4⟩ := h q R1 h1
  exact ⟨R2, h2, f1.trans e1, f2.trans e2, f3.trans e3, f4.trans e4⟩
theorem ExtR.trans {H H' H'' : Option Root} {G G' G'' : Option GRoot} (h : ExtR H H' G G') (h' : ExtR H' H'' G' G'') : ExtR H H'' G G'' := by
  unfold ExtR at h'
  split at h'
  · trivial
  · obtain ⟨⟨c, rfl⟩, rfl⟩ := h'
    obtain ⟨h1, rfl⟩ := h
    exact ⟨h1, rfl⟩
  · obtain ⟨⟨c, rfl⟩, rfl⟩ := h'
    obtain ⟨h1, rfl⟩ := h
    exact ⟨h1, rfl⟩
  · obtain ⟨⟨s, p, rfl⟩, rfl⟩ := h'
    obtain ⟨h1, rfl⟩ := h
    exact ⟨h1, rfl⟩
  · rename_i fl'' k xs'' ver'' hole''
    obtain ⟨fl', xs', ver', hole', t1, t2, rfl, rfl, rfl, hv, htop, hs, hsk⟩ := h'
    obtain ⟨fl, xs, ver, hole, t, t1', rfl, rfl, he, hv0, htop0, hs0, hsk0⟩ := h
    injection he with he
    injection he with he
    subst he
    refine ⟨fl, xs, ver, hole, t, t2, rfl, rfl, rfl, Nat.le_trans hv0 hv, fun R hR => ?_, hs, fun heq => ?_⟩
    · obtain ⟨R1, h1, e1, e2, e3, e4⟩ := htop R hR
      obtain ⟨R2, h2, f1, f2, f3, f4⟩ := htop0 R1 h1
      exact ⟨R2, h2, f1.trans e1, f2.trans e2, f3.trans e3, f4.trans e4⟩
    · obtain ⟨a1, a2⟩ := hsk (by omega)
      obtain ⟨b1, b2⟩ := hsk0 (by omega)
      refine ⟨b1.trans a1, fun hh => ?_⟩
      obtain ⟨c1, c2⟩ := a2 hh
      obtain ⟨d1, d2⟩ := b2 c1
      exact ⟨d1, c2.trans d2⟩
  · rename_i k xs''
    rcases h' with ⟨xs', rfl, rfl⟩ | ⟨fl, xs', ver, hole, A, c, els, rfl, rfl, rfl⟩
    · rcases h with ⟨xs, rfl, rfl⟩ | ⟨fl, xs, ver, hole, A, c, els, rfl, rfl, rfl⟩
      · exact .inl ⟨xs, rfl, rfl⟩
      · exact .inr ⟨fl, xs, ver, hole, A, c, els, rfl, rfl, rfl⟩
    · obtain ⟨fl0, xs0, ver0, hole0, t, t1, rfl, rfl, he, hv0, htop0, hs0, hsk0⟩ := h
      injection he with he
      injection he with he
      subst he
      obtain ⟨R, hR, e1, e2, e3, e4⟩ := htop0 _ rfl
      cases t with
      | row sz A0 c0 els0 =>
        simp only [T.getRow, Option.some.injEq] at hR
        subst hR
        simp only at e1 e2 e3 e4
        subst e1 e2 e3
        exact .inr ⟨fl0, xs0, ver0, hole0, _, _, els0, rfl, rfl, by rw [e4]⟩
      | _ => simp [T.getRow] at hR
theorem Ext.trans {n n1 : Nat → Prop} {E E1 E2 : Env} (h : Ext n E E1) (h' : Ext n1 E1 E2) (hn : ∀ q, n q → n1 q) : Ext n E E2 :=
  ⟨fun b hb => by obtain ⟨h1, h2⟩ := h.stay b hb; obtain ⟨h3, h4⟩ := h'.stay b h1; exact ⟨h3, h4.trans h2⟩, fun r hr => (h.roots r hr).trans (h'.roots r (hn _ hr))⟩

/-- From one state of the memory to a later one. -/
structure Step1 (E : Env) (n : Nat → Prop) (E' : Env) (n' : Nat → Prop) : Prop where
  good : Good E' n'
  ext : Ext n E E'
  tr : Tr (Own E.G) E.w E'.w
  own : ∀ b, Own E'.G b → b < E.w.heap.size → Own E.G b
  le : ∀ q, n q → n' q
  F : E'.F = E.F
theorem Step1.refl {E : Env} {n n' : Nat → Prop} (h : Good E n) (hn : ∀ q, n q → n' q) : Step1 E n E n' := ⟨h.mono hn, Ext.refl h, Tr.refl _ _, fun _ hb _ => hb, hn, rfl⟩
theorem Step1.trans {E E1 E2 : Env} {n n1 n2 : Nat → Prop} (h : Step1 E n E1 n1) (h' : Step1 E1 n1 E2 n2) : Step1 E n E2 n2 :=
  ⟨h'.good, h.ext.trans h'.ext h.le, h.tr.trans h'.tr (fun b hb hlt => h.own b hb hlt), fun b hb hlt => h.own b (h'.own b hb (Nat.lt_of_lt_of_le hlt h.tr.size)) hlt, fun q hq => h'.le q (h.le q hq), h'.F.trans h.F⟩
theorem Step1.post {E E' : Env} {n n' : Nat → Prop} {r : Res} {v : Value} (h : Step1 E n E' n') (hH : E'.H = r.H) (hr : RelV E' r.v v) (hn : ∀ q ∈ r.v.ids, n' q) : Post E n r n' v E' := ⟨hH, h.good, h.ext, hr, hn, h.tr, h.own, h.F⟩
theorem Post.step {E E' : Env} {n n' : Nat → Prop} {r : Res} {v : Value} (h : Post E n r n' v E') (hn : ∀ q, n q → n' q) : Step1 E n E' n' := ⟨h.good, h.ext, h.tr, h.own, hn, h.F⟩
theorem Chg.step {D : Nat → Prop} {n n' : Nat → Prop} {E E' : Env} (hc : Chg D n E E') (hg : Good E n) (hn : ∀ q, n q → n' q) (h : Good E' n') : Step1 E n E' n' := ⟨h, hc.toExt hg, hc.tr, hc.own, hn, hc.F⟩

/-! ### Freezing -/
def Env.frz1 (E : Env) (r : Nat) (k : K) (xs : List k.D) (A : Option Addr) (c : Nat) : Env :=
  { S := fun b => b < E.w.heap.size ∧ ¬ Own (upd r (some (.frz A c xs.length)) E.G) b ∧ ¬ E.F b, F := E.F, w := E.w, H := upd r (some (.frz k xs)) E.H, G := upd r (some (.frz A c xs.length)) E.G }
theorem frz1_step {E : Env} {n : Nat → Prop} {r : Nat} {fl : Fl} {k : K} {xs : List k.D} {ver : Nat} (hg : Good E n) (hH : E.H r = some (.arr fl k xs ver none)) :
    ∃ E', Step1 E n E' n ∧ E'.H = upd r (some (.frz k xs)) E.H ∧ E'.w = E.w ∧ (∀ gr, E.G r = some gr → ∀ b ∈ gr.blocks, E'.S b) ∧ ∀ q, q ≠ r → E'.G q = E.G q := by
  obtain ⟨gr, hG, hrel⟩ := hg.roots r _ hH
  cases gr with
  | arr t =>
    obtain ⟨A, c, els, rfl, hok, ha⟩ := hrel
    have hlen := ha.length
    have hc : Chg (· = r) n E (E.frz1 r k xs A c) := by
      refine ⟨fun q hq => upd_other _ _ hq, fun q hq => upd_other _ _ hq, Nat.le_refl _, rfl, rfl, rfl, fun b _ _ => rfl, fun b => Iff.rfl, ?_, ?_, rfl⟩
      · rintro d gr rfl hgr b hb
        simp only [Env.frz1, upd_same, Option.some.injEq] at hgr
        subst hgr
        cases hb
      · rintro d rfl hlt
        simp only [Env.frz1, upd_same]
        rw [hH, hG]
        exact .inr ⟨fl, xs, ver, none, A, c, els, rfl, rfl, by rw [hlen]⟩
    have hS : ∀ b, E.S b → (E.frz1 r k xs A c).S b := fun b hb => (hc.stay hg b hb).1
    have hb : ∀ b ∈ (T.row k.sz A c els).blocks, (E.frz1 r k xs A c).S b := by
      intro b hb
      refine ⟨hg.lt b ⟨r, _, hG, hb⟩, ?_, fun hf => (hg.F b hf).2 ⟨r, _, hG, hb⟩⟩
      rintro ⟨q, gq, hgq, hbq⟩
      by_cases hq : q = r
      · subst hq
        rw [upd_same] at hgq
        injection hgq with hgq
        subst hgq
        cases hbq
      · rw [upd_other _ _ hq] at hgq
        exact hg.apart r q _ gq (Ne.symm hq) hG hgq b hb hbq
    refine ⟨E.frz1 r k xs A c, hc.step hg (fun _ h => h) (hc.good hg (fun _ h => h) ?_ ?_ ?_ ?_ ?_), rfl, rfl, fun gr hgr b hb' => ?_, fun q hq => upd_other _ _ hq⟩
    · rintro d root rfl h
      simp only [Env.frz1, upd_same, Option.some.injEq] at h
      subst h
      refine ⟨.frz A c xs.length, by simp [Env.frz1, upd_same], rfl, ?_, ?_⟩
      · rw [hlen]; exact hok.1.2.1
      · exact row_read (w := E.w) hS ha hok.1 hok.2 hb
    · rintro d rfl h
      simp [Env.frz1, upd_same] at h
    · rintro d d' g g' rfl rfl hne
      exact absurd rfl hne
    · rintro d g rfl h
      simp only [Env.frz1, upd_same, Option.some.injEq] at h
      subst h
      simp [GRoot.blocks]
    · rintro d root rfl h
      simp only [Env.frz1, upd_same, Option.some.injEq] at h
      subst h
      exact ⟨hg.id_lt hH, by simp [Root.ids]⟩
    · rw [hG] at hgr
      injection hgr with hgr
      subst hgr
      exact hb b hb'
  | _ => exact hrel.elim
end Go.Lite
end

section
/-
  LITE 20: values that become elements.
-/
set_option linter.unusedVariables false
set_option linter.unusedSimpArgs false
namespace Go.Lite
open Go Go.RowKit

/-- A heap in which some roots are hidden. -/
def Hid (D : Nat → Prop) (H H' : Heap) : Prop := ∀ r, (D r → H r = none) ∧ (¬ D r → H r = H' r)
theorem Hid.sub {D : Nat → Prop} {H H' : Heap} (h : Hid D H H') : SubH H H' := fun r root hr => by
  by_cases hD : D r
  · rw [(h r).1 hD] at hr; cases hr
  · rw [← (h r).2 hD]; exact hr
theorem Hid.some {D : Nat → Prop} {H H' : Heap} (h : Hid D H H') {r : Nat} {root : Root} (hr : H r = some root) : ¬ D r ∧ H' r = some root := by
  refine ⟨fun hD => ?_, h.sub r root hr⟩
  rw [(h r).1 hD] at hr; cases hr
theorem Hid.refl (H : Heap) : Hid (fun _ => False) H H := fun r => ⟨False.elim, fun _ => rfl⟩

theorem freeze_sub {D : Nat → Prop} {n : Nat → Prop} : ∀ (ids : List Nat) (H : Heap) (E : Env), Good E n → Hid D H E.H →
    ∃ E', Step1 E n E' n ∧ Hid D (freeze H ids) E'.H ∧ E'.w = E.w ∧ Lent H E E'.S ids ∧ ∀ r, D r → E'.H r = E.H r ∧ E'.G r = E.G r
  | [], H, E, hg, hH => ⟨E, Step1.refl hg (fun _ h => h), hH, rfl, (fun r hr => by cases hr), fun r _ => ⟨rfl, rfl⟩⟩
  | r :: ids, H, E, hg, hH => by
    have other : (∀ fl k xs ver, H r ≠ some (.arr fl k xs ver none)) → freeze H (r :: ids) = freeze H ids → ∃ E', Step1 E n E' n ∧ Hid D (freeze H (r :: ids)) E'.H ∧ E'.w = E.w ∧ Lent H E E'.S (r :: ids) ∧ ∀ r, D r → E'.H r = E.H r ∧ E'.G r = E.G r := by
      intro hne he
      obtain ⟨E', h1, h2, h3, h4, h5⟩ := freeze_sub ids H E hg hH
      refine ⟨E', h1, by rw [he]; exact h2, h3, fun q hq fl k xs ver hr => ?_, h5⟩
      rcases List.mem_cons.1 hq with rfl | hq
      · exact absurd hr (hne fl k xs ver)
      · exact h4 q hq fl k xs ver hr
    cases hr : H r with
    | none => exact other (by simp [hr]) (by simp only [freeze, hr])
    | some root =>
      cases root with
      | arr fl k xs ver hole =>
        cases hole with
        | some p => exact other (by simp [hr]) (by simp only [freeze, hr])
        | none =>
          obtain ⟨hnD, hEr⟩ := hH.some hr
          obtain ⟨E1, h1, h2, h3, h4, h5⟩ := frz1_step hg hEr
          have hH1 : Hid D (upd r (some (.frz k xs)) H) E1.H := by
            intro q
            rw [h2]
            by_cases hq : q = r
            · subst hq; exact ⟨fun h => absurd h hnD, fun _ => by rw [upd_same, upd_same]⟩
            · rw [upd_other _ _ hq, upd_other _ _ hq]; exact hH q
          obtain ⟨E', g1, g2, g3, g4, g5⟩ := freeze_sub ids (upd r (some (.frz k xs)) H) E1 h1.good hH1
          refine ⟨E', h1.trans g1, by simp only [freeze, hr]; exact g2, g3.trans h3, fun q hq fl' k' xs' ver' hqr gr hgr b hb => ?_, fun q hq => ?_⟩
          · by_cases hqr' : q = r
            · subst hqr'
              exact (g1.ext.stay b (h4 gr hgr b hb)).1
            · rcases List.mem_cons.1 hq with rfl | hq
              · exact absurd rfl hqr'
              · exact g4 q hq fl' k' xs' ver' (by rw [upd_other _ _ hqr']; exact hqr) gr (by rw [h5 q hqr']; exact hgr) b hb
          · have hqr : q ≠ r := fun h => hnD (h ▸ hq)
            obtain ⟨a1, a2⟩ := g5 q hq
            exact ⟨by rw [a1, h2, upd_other _ _ hqr], by rw [a2, h5 q hqr]⟩
      | _ => exact other (by simp [hr]) (by simp only [freeze, hr])

theorem RepC.flat {S S' : Nat → Prop} {w w' : World} (k : K) (hk : k.flatRows = true) : ∀ (d : k.D) (cs : List Value), RepC S w k d cs → RepC S' w' k d cs := by
  induction k with
  | int _ => exact fun _ _ h => h
  | bool => exact fun _ _ h => h
  | str => exact fun _ _ h => h
  | unit => exact fun _ _ h => h
  | slice k _ => cases hk
  | array n k ih => exact fun d cs ⟨hn, vss, h, ha⟩ => ⟨hn, vss, h, ha.imp (fun _ _ _ hx => ih hk _ _ hx)⟩
  | pair a b iha ihb =>
    simp only [K.flatRows, Bool.and_eq_true] at hk
    exact fun d cs ⟨c1, c2, h, h1, h2⟩ => ⟨c1, c2, h, iha hk.1 _ _ h1, ihb hk.2 _ _ h2⟩
theorem all2_flat_one {S : Nat → Prop} {w : World} {k : K} (ih : ∀ (d : k.D) (cs : List Value), RepC S w k d cs → ∀ c ∈ cs, c.oneCell' = true) : ∀ (l : List k.D) (vss : List (List Value)), All2 (RepC S w k) l vss → ∀ c ∈ vss.flatten, c.oneCell' = true
  | [], [], _, c, hc => by simp at hc
  | x :: l, v :: vss, h, c, hc => by
    rw [List.flatten_cons] at hc
    rcases List.mem_append.1 hc with hc | hc
    · exact ih x v h.1 c hc
    · exact all2_flat_one ih l vss h.2 c hc
  | [], _ :: _, h, _, _ => h.elim
  | _ :: _, [], h, _, _ => h.elim
theorem RepC.one {S : Nat → Prop} {w : World} (k : K) : ∀ (d : k.D) (cs : List Value), RepC S w k d cs → ∀ c ∈ cs, c.oneCell' = true := by
  induction k with
  | int _ => intro d cs h c hc; simp only [RepC] at h; subst h; simp at hc; subst hc; rfl
  | bool => intro d cs h c hc; simp only [RepC] at h; subst h; simp at hc; subst hc; rfl
  | str => intro d cs h c hc; simp only [RepC] at h; subst h; simp at hc; subst hc; rfl
  | unit => intro d cs h c hc; simp only [RepC] at h; subst h; simp at hc
  | slice k _ => intro d cs h c hc; obtain ⟨_, _, rfl, _⟩ := h; simp at hc; subst hc; rfl
  | array n k ih => intro d cs h c hc; obtain ⟨_, vss, rfl, ha⟩ := h; exact all2_flat_one ih d vss ha c hc
  | pair a b iha ihb =>
    intro d cs h c hc
    obtain ⟨c1, c2, rfl, h1, h2⟩ := h
    rcases List.mem_append.1 hc with hc | hc
    · exact iha _ _ h1 c hc
    · exact ihb _ _ h2 c hc

theorem okRow_leaf {w : World} : ∀ vs : List Value, okRow w (vs.map T.leaf)
  | [] => trivial
  | _ :: vs => ⟨trivial, okRow_leaf vs⟩
theorem blocksRow_leaf : ∀ vs : List Value, blocksRow (vs.map T.leaf) = []
  | [] => rfl
  | _ :: vs => by simp [blocksRow, T.blocks, blocksRow_leaf vs]
theorem map_val_leaf (vs : List Value) : (vs.map T.leaf).map T.val = vs := by rw [List.map_map, show T.val ∘ T.leaf = id from rfl, List.map_id]

/-- What has become an element: its trees, and the roots that have gone into it. -/
structure Taken (E : Env) (D D' : Nat → Prop) (fl : Fl) (k : K) (d : k.D) (cells : List Value) (ts : List T) : Prop where
  abs : AbsT E.S E.w fl k d ts
  val : ts.map T.val = cells
  ok : okRow E.w ts
  nodup : (blocksRow ts).Nodup
  from_ : ∀ b ∈ blocksRow ts, ∃ r gr, D' r ∧ ¬ D r ∧ E.G r = some gr ∧ b ∈ gr.blocks
  one : ∀ c ∈ cells, c.oneCell' = true

theorem absorb_ok {cx : Cx} {E : Env} {n : Nat → Prop} {D : Nat → Prop} {H H' : Heap} {fl : Fl} {k : K} {v : AV} {x : Value} {d : k.D} (hg : Good E n) (hH : Hid D H E.H) (hv : RelV E v x)
    (h : absorb cx H fl k v = some (d, H')) :
    ∃ E' D' ts, Step1 E n E' n ∧ E'.w = E.w ∧ Hid D' H' E'.H ∧ (∀ r, D r → D' r) ∧ (∀ r, D' r → n r ∨ D r) ∧ (∀ r, D r → E'.H r = E.H r ∧ E'.G r = E.G r) ∧ Taken E' D D' fl k d x.cells.toList ts := by
  unfold absorb at h
  split at h
  · rename_i f k r ver off len
    split at h
    · rename_i f' k' xs ver' hr
      split at h
      · rename_i hc
        simp only [Bool.and_eq_true, beq_iff_eq] at hc
        obtain ⟨⟨rfl, rfl⟩, rfl⟩ := hc
        split at h
        · rename_i d' hcast
          simp only [Option.some.injEq, Prod.mk.injEq] at h
          obtain ⟨rfl, rfl⟩ := h
          obtain ⟨e, rfl⟩ := cast_some hcast
          injection e with e
          subst e
          obtain ⟨hnD, hEr⟩ := hH.some hr
          obtain ⟨gr, hG, hrel⟩ := hg.roots r _ hEr
          cases gr with
          | arr t =>
            obtain ⟨A, c, els, rfl, hok, ha⟩ := hrel
            obtain ⟨_, _, _, h2⟩ := hv
            rw [hEr, hG] at h2
            obtain ⟨hle, A', c', rfl, hc', hA⟩ := h2.2 (.inl rfl) [] _ rfl rfl
            simp only [Int.toNat_zero, Nat.sub_zero, Nat.zero_mul, Addr.add_zero'] at hc' hA
            subst hc'
            have hlen := ha.length
            have hnd := hg.nodup r _ hG
            have hbl : (T.row k'.sz A' c' els).blocks = (T.row k'.sz A c' els).blocks := by
              simp only [T.blocks]
              rcases hA with rfl | ⟨a, h1, h2⟩
              · cases A' <;> cases A <;> rfl
              · rw [h1, h2]
            have hok' : (T.row k'.sz A' c' els).ok E.w := by
              refine ⟨⟨hok.1.1, hok.1.2.1, ?_⟩, hok.2⟩
              rcases hA with rfl | ⟨a, h1, h2⟩
              · exact .inl rfl
              · have := hok.1.2.2
                rw [h1] at this
                rw [h2]
                exact this
            refine ⟨E, fun q => D q ∨ q = r, [.row k'.sz A' c' els], Step1.refl hg (fun _ h => h), rfl, fun q => ⟨fun hq => ?_, fun hq => ?_⟩, fun q hq => .inl hq, fun q hq => ?_, fun q hq => ⟨rfl, rfl⟩, ?_⟩
            · rcases hq with hq | rfl
              · by_cases hqr : q = r
                · subst hqr; exact absurd hq hnD
                · rw [upd_other _ _ hqr]; exact (hH q).1 hq
              · exact upd_same _ _ _
            · have hq1 : ¬ D q := fun h => hq (.inl h)
              have hq2 : q ≠ r := fun h => hq (.inr h)
              rw [upd_other _ _ hq2]
              exact (hH q).2 hq1
            · rcases hq with hq | rfl
              · exact .inr hq
              · exact .inl (hg.id_lt hEr)
            · refine ⟨⟨A', c', els, rfl, ha⟩, ?_, ⟨hok', trivial⟩, ?_, fun b hb => ⟨r, _, .inr rfl, hnD, hG, ?_⟩, ?_⟩
              · simp [T.val, hlen, Value.cells]
              · simp only [blocksRow, List.append_nil, hbl]; exact hnd
              · simp only [blocksRow, List.append_nil, hbl] at hb; exact hb
              · intro c hc; simp [Value.cells] at hc; subst hc; rfl
          | _ => exact hrel.elim
        · cases h
      · cases h
    · cases h
  · rename_i f k t
    simp only [Option.some.injEq, Prod.mk.injEq] at h
    obtain ⟨rfl, rfl⟩ := h
    obtain rfl : x = .slice none 0 0 := hv
    refine ⟨E, D, [.row k.sz none 0 []], Step1.refl hg (fun _ h => h), rfl, hH, fun q hq => hq, fun q hq => .inr hq, fun q hq => ⟨rfl, rfl⟩, ⟨none, 0, [], rfl, trivial⟩, by simp [T.val, Value.cells], ⟨⟨⟨by simp, Nat.le_refl _, .inl rfl⟩, trivial⟩, trivial⟩, by simp [blocksRow, T.blocks, headBlock, blocksEls], by simp [blocksRow, T.blocks, headBlock, blocksEls], ?_⟩
    intro c hc; simp [Value.cells] at hc; subst hc; rfl
  · split at h
    · rename_i d' hd
      simp only [Option.some.injEq, Prod.mk.injEq] at h
      obtain ⟨rfl, rfl⟩ := h
      cases hk : k.flatRows with
      | true =>
        obtain ⟨hr, _⟩ := asData_ok (S' := fun _ => True) hg hH.sub (fun _ _ => trivial) (fun _ _ _ _ _ _ _ _ _ _ _ => trivial) hv hd
        have hr : RepC E.S E.w k d' x.cells.toList := RepC.flat k hk _ _ hr
        exact ⟨E, D, _, Step1.refl hg (fun _ h => h), rfl, hH, fun q hq => hq, fun q hq => .inr hq, fun q hq => ⟨rfl, rfl⟩, ⟨_, rfl, hr⟩, map_val_leaf _, okRow_leaf _, by rw [blocksRow_leaf]; simp, (fun b hb => by rw [blocksRow_leaf] at hb; cases hb), hr.one k _ _⟩
      | false =>
        obtain ⟨E', h1, h2, h3, h4, h5⟩ := freeze_sub v.ids H E hg hH
        obtain ⟨hr, _⟩ := asData_ok (S' := E'.S) hg hH.sub (fun b hb => (h1.ext.stay b hb).1) h4 hv hd
        rw [← h3] at hr
        exact ⟨E', D, _, h1, h3, h2, fun q hq => hq, fun q hq => .inr hq, h5, ⟨_, rfl, hr⟩, map_val_leaf _, okRow_leaf _, by rw [blocksRow_leaf]; simp, (fun b hb => by rw [blocksRow_leaf] at hb; cases hb), hr.one k _ _⟩
    · cases h
  · cases h

structure TakenAll (E : Env) (D D' : Nat → Prop) (fl : Fl) (k : K) (ds : List k.D) (cellss : List (List Value)) (tss : List (List T)) : Prop where
  abs : All2 (AbsT E.S E.w fl k) ds tss
  val : tss.map (·.map T.val) = cellss
  ok : okEls E.w tss
  nodup : (blocksEls tss).Nodup
  from_ : ∀ b ∈ blocksEls tss, ∃ r gr, D' r ∧ ¬ D r ∧ E.G r = some gr ∧ b ∈ gr.blocks
  one : ∀ cs ∈ cellss, ∀ c ∈ cs, c.oneCell' = true

theorem absorbAll_ok {cx : Cx} {n : Nat → Prop} {fl : Fl} {k : K} : ∀ (vs : List AV) (xs : List Value) (E : Env) (D : Nat → Prop) (H H' : Heap) (ds : List k.D), Good E n → Hid D H E.H → All2 (RelV E) vs xs → (∀ q ∈ idsAll vs, n q) →
    absorbAll cx fl k H vs = some (ds, H') →
    ∃ E' D' tss, Step1 E n E' n ∧ E'.w = E.w ∧ Hid D' H' E'.H ∧ (∀ r, D r → D' r) ∧ (∀ r, D' r → n r ∨ D r) ∧ (∀ r, D r → E'.H r = E.H r ∧ E'.G r = E.G r) ∧ TakenAll E' D D' fl k ds (xs.map fun x => x.cells.toList) tss
  | [], [], E, D, H, H', ds, hg, hH, _, _, h => by
    simp only [absorbAll, Option.some.injEq, Prod.mk.injEq] at h
    obtain ⟨rfl, rfl⟩ := h
    exact ⟨E, D, [], Step1.refl hg (fun _ h => h), rfl, hH, fun _ h => h, fun _ h => .inr h, fun _ _ => ⟨rfl, rfl⟩, trivial, rfl, trivial, by simp [blocksEls], by simp [blocksEls], by simp⟩
  | v :: vs, x :: xs, E, D, H, H', ds, hg, hH, hv, hn, h => by
    simp only [absorbAll] at h
    split at h
    · rename_i d H1 h1
      split at h
      · rename_i ds' H2 h2
        simp only [Option.some.injEq, Prod.mk.injEq] at h
        obtain ⟨rfl, rfl⟩ := h
        obtain ⟨E1, D1, ts, s1, w1, hH1, i1, n1, k1, t1⟩ := absorb_ok hg hH hv.1 h1
        have hn2 : ∀ q ∈ idsAll vs, n q := fun q hq => hn q (by simp [idsAll, hq])
        obtain ⟨E2, D2, tss, s2, w2, hH2, i2, n2, k2, t2⟩ := absorbAll_ok vs xs E1 D1 H1 H2 ds' s1.good hH1 (RelAll2.ext s1.ext hn2 hv.2) hn2 h2
        refine ⟨E2, D2, ts :: tss, s1.trans s2, w2.trans w1, hH2, fun r hr => i2 r (i1 r hr), fun r hr => ?_, fun r hr => ?_, ⟨t1.abs.mono s2.ext.stay fl k _ _, t2.abs⟩, by simp [t1.val, t2.val], ⟨by rw [w2]; exact t1.ok, t2.ok⟩, ?_, fun b hb => ?_, ?_⟩
        · rcases n2 r hr with h | h
          · exact .inl h
          · exact n1 r h
        · obtain ⟨a1, a2⟩ := k2 r (i1 r hr)
          obtain ⟨b1, b2⟩ := k1 r hr
          exact ⟨a1.trans b1, a2.trans b2⟩
        · simp only [blocksEls]
          rw [List.nodup_append]
          refine ⟨t1.nodup, t2.nodup, fun a ha b hb hab => ?_⟩
          subst hab
          obtain ⟨r1, g1, hr1, hr1', hg1, hb1⟩ := t1.from_ a ha
          obtain ⟨r2, g2, hr2, hr2', hg2, hb2⟩ := t2.from_ a hb
          have hne : r1 ≠ r2 := fun h => hr2' (h ▸ hr1)
          rw [← (k2 r1 hr1).2] at hg1
          exact s2.good.apart r1 r2 g1 g2 hne hg1 hg2 a hb1 hb2
        · simp only [blocksEls] at hb
          rcases List.mem_append.1 hb with hb | hb
          · obtain ⟨r1, g1, hr1, hr1', hg1, hb1⟩ := t1.from_ b hb
            exact ⟨r1, g1, i2 r1 hr1, hr1', by rw [(k2 r1 hr1).2]; exact hg1, hb1⟩
          · obtain ⟨r2, g2, hr2, hr2', hg2, hb2⟩ := t2.from_ b hb
            exact ⟨r2, g2, hr2, fun h => hr2' (i1 r2 h), hg2, hb2⟩
        · intro cs hcs c hc
          simp only [List.map_cons] at hcs
          rcases List.mem_cons.1 hcs with rfl | hcs
          · exact t1.one c hc
          · exact t2.one cs hcs c hc
      · cases h
    · cases h
  | [], _ :: _, _, _, _, _, _, _, _, h, _, _ => h.elim
  | _ :: _, [], _, _, _, _, _, _, _, h, _, _ => h.elim

theorem blocksEls_lt {E : Env} {n : Nat → Prop} {D D' : Nat → Prop} {fl : Fl} {k : K} {ds : List k.D} {cellss : List (List Value)} {tss : List (List T)} (hg : Good E n) (ht : TakenAll E D D' fl k ds cellss tss) : ∀ b ∈ blocksEls tss, b < E.w.heap.size := fun b hb => by
  obtain ⟨r, gr, _, _, hgr, hb'⟩ := ht.from_ b hb
  exact hg.lt b ⟨r, gr, hgr, hb'⟩
theorem taken_len {E : Env} {D D' : Nat → Prop} {fl : Fl} {k : K} {ds : List k.D} {cellss : List (List Value)} {tss : List (List T)} (ht : TakenAll E D D' fl k ds cellss tss) : tss.length = ds.length ∧ cellss.length = ds.length ∧ ∀ r ∈ tss, r.length = k.sz := by
  have h1 := ht.abs.length
  refine ⟨h1.symm, by rw [← ht.val, List.length_map, h1], fun r hr => ?_⟩
  obtain ⟨x, _, hx⟩ := all2_mem ht.abs r hr
  exact hx.length fl _ _ _

def Env.row (E : Env) (H : Heap) (m : Nat) (fl : Fl) (k : K) (ds : List k.D) (tss : List (List T)) (c : Nat) (cells : Array Value) (e : TypeId) : Env :=
  let G : Nat → Option GRoot := upd m (some (.arr (.row k.sz (some ⟨E.w.heap.size, 0, none⟩) c tss))) fun r => (H r).bind fun _ => E.G r
  { S := fun b => b < E.w.heap.size + 1 ∧ ¬ Own G b ∧ ¬ E.F b, F := E.F, w := { E.w with heap := E.w.heap.push (.cells cells e) }, H := upd m (some (.arr fl k ds 0 none)) H, G := G }

/-- A new row. -/
theorem row_post {E : Env} {m : Nat} {n n' : Nat → Prop} {D : Nat → Prop} {H : Heap} {fl : Fl} {k : K} {ds : List k.D} {cellss : List (List Value)} {tss : List (List T)} {c : Nat} {cells : Array Value} {e : TypeId} (hg : Good E n) (hH : Hid D H E.H) (hD : ∀ r, D r → n r)
    (ht : TakenAll E (fun _ => False) D fl k ds cellss tss) (hm : ¬ n m) (hmn : (∀ q, n q → n' q) ∧ n' m) (hc : ds.length ≤ c) (hcap : c * k.sz ≤ cells.size)
    (hcells : ∀ i cs, cellss[i]? = some cs → ∀ j, j < k.sz → cells[i * k.sz + j]? = cs[j]?) :
    Step1 E n (E.row H m fl k ds tss c cells e) n' ∧ RelV (E.row H m fl k ds tss c cells e) (.sl m 0 [] 0 ds.length) (.slice (some ⟨E.w.heap.size, 0, none⟩) ds.length c) := by
  obtain ⟨l1, l2, l3⟩ := taken_len ht
  have hEm := good_fresh hg hm
  have hlt := blocksEls_lt hg ht
  have hchg : Chg (fun r => D r ∨ r = m) n E (E.row H m fl k ds tss c cells e) := by
    refine ⟨fun r hr => ?_, fun r hr => ?_, by simp [Env.row], rfl, rfl, rfl, fun b hb' _ => ?_, fun b => ?_, fun d gr hd hgr b hb => ?_, fun d hd hlt => ?_, rfl⟩
    · have h1 : r ≠ m := fun h => hr (.inr h)
      have h2 : ¬ D r := fun h => hr (.inl h)
      simp only [Env.row]
      rw [upd_other _ _ h1]
      exact (hH r).2 h2
    · have h1 : r ≠ m := fun h => hr (.inr h)
      have h2 : ¬ D r := fun h => hr (.inl h)
      simp only [Env.row]
      rw [upd_other _ _ h1, (hH r).2 h2]
      cases h : E.H r with
      | none => rw [hg.none r h]; rfl
      | some root => rfl
    · simp only [Env.row]
      rw [Array.getElem?_push, if_neg (by omega)]
    · simp [Env.row]
    · by_cases hdm : d = m
      · subst hdm
        simp only [Env.row, upd_same, Option.some.injEq] at hgr
        subst hgr
        simp only [GRoot.blocks, T.blocks] at hb
        rcases List.mem_append.1 hb with hb | hb
        · cases c with
          | zero => cases hb
          | succ c =>
            simp [headBlock] at hb
            subst hb
            exact ⟨by simp [Env.row], .inl (Nat.le_refl _)⟩
        · obtain ⟨r, gr, hr, _, hgr, hb'⟩ := ht.from_ b hb
          refine ⟨by have := hlt b hb; simp [Env.row]; omega, .inr ⟨r, gr, .inl hr, hgr, hb'⟩⟩
      · have hDd : D d := hd.resolve_right hdm
        simp only [Env.row] at hgr
        rw [upd_other _ _ hdm, (hH d).1 hDd] at hgr
        cases hgr
    · have hdm : d ≠ m := fun h => hm (h ▸ hlt)
      have hDd : D d := hd.resolve_right hdm
      simp only [Env.row]
      rw [upd_other _ _ hdm, (hH d).1 hDd]
      trivial
  have hx := hchg.toExt hg
  have hgood : Good (E.row H m fl k ds tss c cells e) n' := by
    refine hchg.good hg hmn.1 ?_ ?_ ?_ ?_ ?_
    · intro d root hd h
      by_cases hdm : d = m
      · subst hdm
        simp only [Env.row, upd_same, Option.some.injEq] at h
        subst h
        refine ⟨.arr (.row k.sz (some ⟨E.w.heap.size, 0, none⟩) c tss), by simp only [Env.row, upd_same], some ⟨E.w.heap.size, 0, none⟩, c, tss, rfl, ⟨⟨l3, by omega, .inr ⟨_, _, cells, e, rfl, ?_, by omega, ?_⟩⟩, ?_⟩, ht.abs.imp (fun _ _ _ h => h.mono hx.stay fl k _ _)⟩
        · show (E.w.heap.push _)[E.w.heap.size]? = _
          exact Array.getElem?_push_size
        · intro i r hr j t htj _
          have hcs : cellss[i]? = some (r.map T.val) := by rw [← ht.val, List.getElem?_map, hr]; rfl
          have hj : j < k.sz := by rw [← l3 r (List.mem_of_getElem? hr)]; exact (List.getElem?_eq_some_iff.1 htj).1
          rw [Nat.zero_add, hcells i _ hcs j hj, List.getElem?_map, htj]
          rfl
        · refine okEls_mono tss (fun b hb => ?_) ht.ok
          show (E.w.heap.push _)[b]? = _
          rw [Array.getElem?_push, if_neg (by have := hlt b hb; omega)]
      · have hDd : D d := hd.resolve_right hdm
        simp only [Env.row] at h
        rw [upd_other _ _ hdm, (hH d).1 hDd] at h
        cases h
    · intro d hd h
      by_cases hdm : d = m
      · subst hdm; simp [Env.row, upd_same] at h
      · have hDd : D d := hd.resolve_right hdm
        simp only [Env.row]
        rw [upd_other _ _ hdm, (hH d).1 hDd]
        rfl
    · intro d d' g g' hd hd' hne h1 h2 b hb hb'
      have key : ∀ q gq, (D q ∨ q = m) → (E.row H m fl k ds tss c cells e).G q = some gq → q = m := by
        intro q gq hq hgq
        by_cases hqm : q = m
        · exact hqm
        · have hDd : D q := hq.resolve_right hqm
          simp only [Env.row] at hgq
          rw [upd_other _ _ hqm, (hH q).1 hDd] at hgq
          cases hgq
      exact hne ((key d g hd h1).trans (key d' g' hd' h2).symm)
    · intro d g hd h
      by_cases hdm : d = m
      · subst hdm
        simp only [Env.row, upd_same, Option.some.injEq] at h
        subst h
        simp only [GRoot.blocks, T.blocks]
        rw [List.nodup_append]
        refine ⟨by cases c <;> simp [headBlock], ht.nodup, fun a ha b hb hab => ?_⟩
        subst hab
        have := hlt a hb
        cases c with
        | zero => cases ha
        | succ c => simp [headBlock] at ha; omega
      · have hDd : D d := hd.resolve_right hdm
        simp only [Env.row] at h
        rw [upd_other _ _ hdm, (hH d).1 hDd] at h
        cases h
    · intro d root hd h
      by_cases hdm : d = m
      · subst hdm
        simp only [Env.row, upd_same, Option.some.injEq] at h
        subst h
        exact ⟨hmn.2, by simp [Root.ids]⟩
      · have hDd : D d := hd.resolve_right hdm
        simp only [Env.row] at h
        rw [upd_other _ _ hdm, (hH d).1 hDd] at h
        cases h
  refine ⟨hchg.step hg hmn.1 hgood, by omega, by omega, ⟨_, c, rfl, by simpa using hc, .inr rfl⟩, ?_⟩
  simp only [Env.row, upd_same]
  refine ⟨⟨fun h => absurd rfl h, fun _ _ => ⟨[], _, rfl, rfl⟩⟩, fun _ q R hq hR => ?_⟩
  simp only [tpath, Option.some.injEq] at hq
  subst hq
  simp only [T.getRow, Option.some.injEq] at hR
  subst hR
  refine ⟨by simp [l1], some ⟨E.w.heap.size, 0, none⟩, c, by simp, by simp, .inr ⟨_, rfl, by simp [Addr.add]⟩⟩
end Go.Lite
end

section
/-
  LITE 21: new rows.
-/
set_option linter.unusedVariables false
set_option linter.unusedSimpArgs false
namespace Go.Lite
open Go Go.RowKit

/-- A root let go: what it had stays as it is. -/
theorem drop_step {E : Env} {n : Nat → Prop} (r : Nat) (hg : Good E n) :
    ∃ E', Step1 E n E' n ∧ E'.H = upd r none E.H ∧ E'.w = E.w ∧ (∀ gr, E.G r = some gr → ∀ b ∈ gr.blocks, E'.S b) ∧ ∀ q, q ≠ r → E'.G q = E.G q := by
  let E' : Env := { S := fun b => b < E.w.heap.size ∧ ¬ Own (upd r none E.G) b ∧ ¬ E.F b, F := E.F, w := E.w, H := upd r none E.H, G := upd r none E.G }
  have hc : Chg (· = r) n E E' := by
    refine ⟨fun q hq => upd_other _ _ hq, fun q hq => upd_other _ _ hq, Nat.le_refl _, rfl, rfl, rfl, fun b _ _ => rfl, fun b => Iff.rfl, ?_, ?_, rfl⟩
    · rintro d gr rfl hgr
      simp [E', upd_same] at hgr
    · rintro d rfl hlt
      simp only [E', upd_same]
      trivial
  refine ⟨E', hc.step hg (fun _ h => h) (hc.good hg (fun _ h => h) ?_ ?_ ?_ ?_ ?_), rfl, rfl, fun gr hgr b hb => ⟨hg.lt b ⟨r, gr, hgr, hb⟩, ?_, fun hf => (hg.F b hf).2 ⟨r, gr, hgr, hb⟩⟩, fun q hq => upd_other _ _ hq⟩
  · rintro d root rfl h; simp [E', upd_same] at h
  · rintro d rfl _; simp [E', upd_same]
  · rintro d d' g g' rfl rfl hne; exact absurd rfl hne
  · rintro d g rfl h; simp [E', upd_same] at h
  · rintro d root rfl h; simp [E', upd_same] at h
  · rintro ⟨q, gq, hgq, hbq⟩
    by_cases hq : q = r
    · subst hq; rw [upd_same] at hgq; cases hgq
    · rw [upd_other _ _ hq] at hgq
      exact hg.apart r q _ gq (Ne.symm hq) hgr hgq b hb hbq

theorem okEls_leaf {w : World} : ∀ vss : List (List Value), okEls w (vss.map (·.map T.leaf))
  | [] => trivial
  | v :: vss => ⟨okRow_leaf v, okEls_leaf vss⟩
theorem blocksEls_leaf : ∀ vss : List (List Value), blocksEls (vss.map (·.map T.leaf)) = []
  | [] => rfl
  | v :: vss => by simp [blocksEls, blocksRow_leaf, blocksEls_leaf vss]
theorem absT_leaf {S : Nat → Prop} {w : World} {k : K} : ∀ {ds : List k.D} {vss : List (List Value)}, All2 (RepC S w k) ds vss → All2 (AbsT S w .no k) ds (vss.map (·.map T.leaf))
  | [], [], _ => trivial
  | d :: ds, v :: vss, h => ⟨⟨v, rfl, h.1⟩, absT_leaf h.2⟩
  | [], _ :: _, h => h.elim
  | _ :: _, [], h => h.elim
theorem taken_leaf {E : Env} {D D' : Nat → Prop} {k : K} {ds : List k.D} {vss : List (List Value)} (h : All2 (RepC E.S E.w k) ds vss) : TakenAll E D D' .no k ds vss (vss.map (·.map T.leaf)) :=
  ⟨absT_leaf h, by rw [List.map_map]; conv => rhs; rw [← List.map_id vss]
                   congr 1; funext v; exact map_val_leaf v, okEls_leaf _, by rw [blocksEls_leaf]; simp, (fun b hb => by rw [blocksEls_leaf] at hb; cases hb), fun cs hcs c hc => by
    obtain ⟨d, _, hd⟩ := all2_mem h cs hcs
    exact hd.one k _ _ c hc⟩

section
variable {P : Program} {hint : Nat → Hint} {glob : Nat → Option Comp} {E : Env} {n : Nat → Prop}

def zeroRow (z : Array Value) (m : Nat) : Array Value := (Array.range m).map ((if m = 0 then #[] else z)[· % (if m = 0 then #[] else z).size]!)
theorem zeroRow_get {z : Array Value} {c sz i j : Nat} (hz : z.size = sz) (hi : i < c) (hj : j < sz) : (zeroRow z (c * sz))[i * sz + j]? = z.toList[j]? := by
  have hlt : i * sz + j < c * sz := by
    have : (i + 1) * sz ≤ c * sz := Nat.mul_le_mul_right _ hi
    rw [Nat.add_mul] at this
    omega
  have hne : c * sz ≠ 0 := by omega
  unfold zeroRow
  simp only [if_neg hne]
  rw [Array.getElem?_map, Array.getElem?_range, if_pos hlt, Option.map_some, hz, Nat.mul_add_mod_self_right, Nat.mod_eq_of_lt hj]
  simp [getElem!_pos, hz, hj]

theorem makeSlice_run {t e : TypeId} {info : TypeInfo} {z : Value} (hu : P.underlying t = some (.slice e)) (hi : P.info? e = some info) (hz : info.zero = some z) {kn kc : IntKind} {m c : Int} (h0 : 0 ≤ m) (h1 : m ≤ c) (h2 : c ≤ 1073741824) (h3 : c * info.bytes ≤ 1073741824) (w : World) :
    (Instr.makeSlice t (.int kn m) (.int kc c)).run P w = .ok (.slice (some ⟨w.heap.size, 0, none⟩) m.toNat c.toNat) { w with heap := w.heap.push (.cells (zeroRow z.cells (c.toNat * info.size)) e) } := by
  have wm : IntKind.i64.wrap m = m := by simp [IntKind.wrap, IntKind.bits, IntKind.signed]; omega
  have wc : IntKind.i64.wrap c = c := by simp [IntKind.wrap, IntKind.bits, IntKind.signed]; omega
  have hb : ¬ ((info.bytes : Int) * c > 2 ^ 48) := by rw [Int.mul_comm]; omega
  have hg : (decide (c < 0) || decide ((info.bytes : Int) * c > 2 ^ 48) || decide (m < 0) || decide (m > c)) = false := by
    simp only [Bool.or_eq_false_iff, decide_eq_false_iff_not]
    exact ⟨⟨⟨by omega, hb⟩, by omega⟩, by omega⟩
  unfold Instr.makeSlice
  simp only [Sem.run_bind, run_underlying hu, Result.andThen_ok, Go.asInt, asIntOf, Sem.run_pure, typeInfo, run_program, hi, wm, wc, hg, Bool.false_eq_true, if_false, run_askRoom, run_sizeOf_of hi]
  by_cases hn : c.toNat * info.size = 0
  · simp only [hn, if_true, Sem.run_pure, Result.andThen_ok, newRow, Sem.run_bind, run_newObj, zeroRow]
  · simp only [hn, if_false, Sem.run_bind, run_zeroValue_of hi hz, Sem.run_pure, Result.andThen_ok, newRow, run_newObj, zeroRow]

theorem makeSlice_ok {h : Hint} {t : TypeId} {ln cp : AV} {vl vc : Value} {m : Nat} {n' : Nat → Prop} {r : AV} {H' : Heap} (hg : Good E n) (hl : RelV E ln vl) (hc : RelV E cp vc) (hm : ¬ n m) (hmn : (∀ q, n q → n' q) ∧ n' m) (hs : makeSlice (mkCx P hint glob) h E.H t ln cp m = some (r, H')) :
    ∃ v E', (Instr.makeSlice t vl vc).run P E.w = .ok v E'.w ∧ Post E n ⟨r, H'⟩ n' v E' := by
  unfold makeSlice at hs
  split at hs
  · rename_i e i k kn a kc c hek
    obtain ⟨hck, hs⟩ := chk_some hs
    simp only [Bool.and_eq_true, decide_eq_true_eq, LIM] at hck
    obtain ⟨⟨⟨⟨h0, h1⟩, h2⟩, h3⟩, _⟩ := hck
    replace h2 : c ≤ 1073741824 := of_decide_eq_true h2
    replace h3 : c * i.bytes ≤ 1073741824 := of_decide_eq_true h3
    simp only [Option.some.injEq, Prod.mk.injEq] at hs
    obtain ⟨rfl, rfl⟩ := hs
    have hl := relV_int.1 hl
    have hc := relV_int.1 hc
    subst hl hc
    obtain ⟨info, hu, hinfo, hk, _, hby, hsz⟩ := elemKind_some hek
    obtain ⟨info', z, z1, z2, z3, z4⟩ := hk.zero
    rw [hinfo] at z1
    injection z1 with z1
    subst z1
    have hzl := (z4 E.S E.w).length k _ _
    rw [Array.length_toList] at hzl
    have ht : TakenAll E (fun _ => False) (fun _ => False) .no k (List.replicate a.toNat k.zero) (List.replicate a.toNat z.cells.toList) ((List.replicate a.toNat z.cells.toList).map (·.map T.leaf)) := taken_leaf (all2_replicate (z4 E.S E.w) _)
    obtain ⟨p1, p2⟩ := row_post (c := c.toNat) (cells := zeroRow z.cells (c.toNat * info.size)) (e := e) hg (Hid.refl _) (fun _ h => h.elim) ht hm hmn (by simp; omega) (by simp [zeroRow, hsz]) (by
      intro ix cs hcs j hj
      rw [List.getElem?_replicate] at hcs
      split at hcs
      · rename_i hlt
        injection hcs with hcs
        subst hcs
        rw [hsz]
        exact zeroRow_get hzl (by omega) hj
      · cases hcs)
    refine ⟨_, _, makeSlice_run hu hinfo z2 h0 h1 h2 (by rw [← hby]; exact h3) E.w, p1.post rfl ?_ (by simpa [AV.ids] using hmn.2)⟩
    simp only [List.length_replicate] at p2
    rw [show ((a.toNat : Nat) : Int) = a by omega] at p2
    exact p2
  · cases hs

/-- The parts of a slice literal: all of them, in order. -/
theorem zipIdx_of {ps : List (Nat × Value)} : ∀ (i : Nat), (ps.zipIdx i).all (fun p => p.1.1 == p.2) = true → ps = ((ps.map (·.2)).zipIdx i).map fun x => (x.2, x.1) := by
  induction ps with
  | nil => intro i _; rfl
  | cons p ps ih =>
    intro i h
    simp only [List.zipIdx_cons, List.all_cons, Bool.and_eq_true, beq_iff_eq] at h
    simp only [List.map_cons, List.zipIdx_cons, List.map_cons]
    rw [← ih (i + 1) h.2]
    obtain ⟨a, b⟩ := p
    simp only at h
    rw [h.1]

theorem flat_get' {sz : Nat} : ∀ (vs : List Value) (i j : Nat) (v : Value), (∀ v ∈ vs, v.cells.size = sz) → vs[i]? = some v → j < sz → (vs.flatMap fun v => v.cells.toList)[i * sz + j]? = v.cells.toList[j]?
  | [], i, j, v, _, h, _ => by simp at h
  | x :: vs, 0, j, v, hs, h, hj => by
    simp at h
    subst h
    rw [List.flatMap_cons, Nat.zero_mul, Nat.zero_add, List.getElem?_append_left (by simp [hs x (by simp), hj])]
  | x :: vs, i + 1, j, v, hs, h, hj => by
    have hx := hs x (by simp)
    rw [List.flatMap_cons, List.getElem?_append_right (by simp [hx, Nat.add_mul]; omega)]
    rw [← flat_get' vs i j v (fun v hv => hs v (by simp [hv])) (by simpa using h) hj]
    congr 1
    simp only [Array.length_toList, hx, Nat.add_mul]
    omega

theorem flatMap_len {sz : Nat} : ∀ (vs : List Value), (∀ v ∈ vs, v.cells.size = sz) → (vs.flatMap fun v => v.cells.toList).length = vs.length * sz
  | [], _ => by simp
  | v :: vs, h => by
    rw [List.flatMap_cons, List.length_append, flatMap_len vs (fun v hv => h v (by simp [hv])), Array.length_toList, h v (by simp), List.length_cons, Nat.add_mul]
    omega
theorem buildSlice_run {t e : TypeId} {info : TypeInfo} {z : Value} (hu : P.underlying t = some (.slice e)) (hi : P.info? e = some info) (hz : info.zero = some z) (vs : List Value) (ps : Array (Nat × Value)) (hps : ps.toList = (vs.zipIdx 0).map fun x => (x.2, x.1))
    (hpos : 0 < info.size) (hsz : ∀ v ∈ vs, v.cells.size = info.size) (hlim : vs.length * info.size ≤ 65536) (w : World) :
    (Instr.buildSlice t vs.length ps).run P w = .ok (.slice (some ⟨w.heap.size, 0, none⟩) vs.length vs.length) { w with heap := w.heap.push (.cells (vs.flatMap fun v => v.cells.toList).toArray e) } := by
  by_cases h0 : vs.length * info.size = 0
  · have hnil : vs = [] := by
      rcases Nat.mul_eq_zero.1 h0 with h | h
      · exact List.length_eq_zero_iff.1 h
      · omega
    subst hnil
    have : ps = #[] := by apply Array.ext'; simpa using hps
    subst this
    simp [Instr.buildSlice, run_underlying hu, run_sizeOf_of hi, Instr.fill, newRow, Array.range_zero']
  · exact run_buildSlice w t e vs.length ps _ info z hu hi hz (by omega) h0 (by
      rw [hps]
      exact Great.fill_whole hpos vs _ hsz (by simp))

theorem all2_cells_size {D D' : Nat → Prop} {fl : Fl} {k : K} {ds : List k.D} {vs : List Value} {tss : List (List T)} (ht : TakenAll E D D' fl k ds (vs.map fun x => x.cells.toList) tss) : (∀ v ∈ vs, v.cells.size = k.sz) ∧ vs.length = ds.length := by
  obtain ⟨l1, l2, l3⟩ := taken_len ht
  refine ⟨fun v hv => ?_, by simpa using l2⟩
  have : v.cells.toList ∈ tss.map (·.map T.val) := by rw [ht.val]; exact List.mem_map.2 ⟨v, hv, rfl⟩
  obtain ⟨ts, hts, he⟩ := List.mem_map.1 this
  have := l3 ts hts
  rw [← Array.length_toList, ← he, List.length_map, this]

theorem buildSlice_ok {fl : Fl} {t e : TypeId} {i : Ty} {k : K} {avs : List AV} {vs : List Value} {ps : Array (Nat × Value)} {m : Nat} {n' : Nat → Prop} {ds : List k.D} {H' : Heap} (hg : Good E n) (hm : ¬ n m) (hmn : (∀ q, n q → n' q) ∧ n' m) (hek : elemKind (mkCx P hint glob) t = some (e, i, k))
    (hv : All2 (RelV E) avs vs) (hn : ∀ q ∈ idsAll avs, n q) (hps : ps.toList = (vs.zipIdx 0).map fun x => (x.2, x.1)) (hsz : 0 < i.size) (hlim : vs.length * i.size ≤ 65536) (h : absorbAll (mkCx P hint glob) fl k E.H avs = some (ds, H')) :
    ∃ v E', (Instr.buildSlice t vs.length ps).run P E.w = .ok v E'.w ∧ Step1 E n E' n' ∧ E'.H = upd m (some (.arr fl k ds 0 none)) H' ∧ RelV E' (.sl m 0 [] 0 (ds.length : Nat)) v ∧ (∃ A, v = .slice A ds.length ds.length ∧ ∃ els, E'.G m = some (.arr (.row k.sz A ds.length els))) ∧ H' m = none := by
  obtain ⟨info, hu, hinfo, hk, hsi, hby, hsk⟩ := elemKind_some hek
  obtain ⟨info', z, z1, z2, z3, z4⟩ := hk.zero
  rw [hinfo] at z1
  injection z1 with z1
  subst z1
  obtain ⟨E1, D, tss, s1, w1, hH1, _, n1, _, t1⟩ := absorbAll_ok avs vs E (fun _ => False) E.H H' ds hg (Hid.refl _) hv hn h
  obtain ⟨c1, c2⟩ := all2_cells_size t1
  have hrun := buildSlice_run hu hinfo z2 vs ps hps (by omega) (fun v hv => by rw [c1 v hv, hsk]) (by rw [← hsi]; exact hlim) E.w
  obtain ⟨p1, p2⟩ := row_post (c := vs.length) (cells := (vs.flatMap fun v => v.cells.toList).toArray) (e := e) s1.good hH1 (fun r hr => (n1 r hr).resolve_right (fun h => h)) t1 hm hmn (by omega) (by
      rw [List.size_toArray, flatMap_len vs c1]
      exact Nat.le_refl _) (by
      intro ix cs hcs j hj
      rw [List.getElem?_map] at hcs
      obtain ⟨v, hv, rfl⟩ := map_some hcs
      rw [List.getElem?_toArray]
      exact flat_get' vs ix j v c1 hv hj)
  refine ⟨_, _, ?_, s1.trans p1, rfl, p2, ⟨some ⟨E1.w.heap.size, 0, none⟩, by rw [c2], tss, ?_⟩, ?_⟩
  · rw [hrun, c2]
    simp only [Env.row, w1]
  · simp only [Env.row, upd_same, c2]
  · have := good_fresh s1.good hm
    by_cases hD : D m
    · exact (hH1 m).1 hD
    · rw [(hH1 m).2 hD]; exact this.1
end
end Go.Lite
end

section
/-
  LITE 22: slice literals, nil slices, maps.
-/
set_option linter.unusedVariables false
set_option linter.unusedSimpArgs false
namespace Go.Lite
open Go Go.RowKit

section
variable {P : Program} {hint : Nat → Hint} {glob : Nat → Option Comp} {E : Env} {n : Nat → Prop}

theorem upd_none {H : Heap} {m : Nat} {x : Option Root} (h : H m = none) : upd m none (upd m x H) = H := by
  funext r
  by_cases hr : r = m
  · subst hr; rw [upd_same, h]
  · rw [upd_other _ _ hr, upd_other _ _ hr]

theorem buildLit_ok {t e : TypeId} {i : Ty} {k : K} {avs : List AV} {vs : List Value} {ps : Array (Nat × Value)} {m : Nat} {n' : Nat → Prop} {ds : List k.D} {H' : Heap} (hg : Good E n) (hm : ¬ n m) (hmn : (∀ q, n q → n' q) ∧ n' m) (hek : elemKind (mkCx P hint glob) t = some (e, i, k))
    (hv : All2 (RelV E) avs vs) (hn : ∀ q ∈ idsAll avs, n q) (hps : ps.toList = (vs.zipIdx 0).map fun x => (x.2, x.1)) (hsz : 0 < i.size) (hlim : vs.length * i.size ≤ 65536) (h : absorbAll (mkCx P hint glob) .no k E.H avs = some (ds, H')) :
    ∃ v E', (Instr.buildSlice t vs.length ps).run P E.w = .ok v E'.w ∧ Post E n ⟨.lit k ds, H'⟩ n' v E' := by
  obtain ⟨v, E2, h1, h2, h3, h4, ⟨A, rfl, els, hG⟩, h6⟩ := buildSlice_ok hg hm hmn hek hv hn hps hsz hlim h
  obtain ⟨E3, g1, g2, g3, g4, g5⟩ := drop_step m h2.good
  refine ⟨_, E3, by rw [h1, g3], (h2.trans g1).post (by rw [g2, h3]; exact upd_none h6) ?_ (by simp [AV.ids])⟩
  obtain ⟨gr, hgr, hrel⟩ := h2.good.roots m (.arr .no k ds 0 none) (by rw [h3, upd_same])
  rw [hG] at hgr
  injection hgr with hgr
  subst hgr
  obtain ⟨A', c', els', he, hok, ha⟩ := hrel
  injection he with e1 e2 e3 e4
  subst e2 e3 e4
  refine ⟨A, rfl, ?_⟩
  have := row_read (S' := E3.S) (fun b hb => (g1.ext.stay b hb).1) ha hok.1 hok.2 (g4 _ hG)
  rw [g3]
  have hmono : RowAt E2.w E3.S k.sz (RepC E3.S E2.w k) A ds := this
  exact hmono

theorem nilOf_ok {h : Hint} {t : TypeId} {m : Nat} {n' : Nat → Prop} {r : AV} {H' : Heap} (hg : Good E n) (hm : ¬ n m) (hmn : (∀ q, n q → n' q) ∧ n' m) (hs : nilOf (mkCx P hint glob) h E.H t m = some (r, H')) :
    ∃ E', E'.w = E.w ∧ Post E n ⟨r, H'⟩ n' (.slice none 0 0) E' := by
  unfold nilOf at hs
  split at hs
  · simp only [Option.some.injEq, Prod.mk.injEq] at hs
    obtain ⟨rfl, rfl⟩ := hs
    exact ⟨E, rfl, (Step1.refl hg hmn.1).post rfl rfl (by simp [AV.ids])⟩
  · rename_i fl _
    split at hs
    · rename_i e i k hek
      simp only [Option.some.injEq, Prod.mk.injEq] at hs
      obtain ⟨rfl, rfl⟩ := hs
      let E' : Env := { S := fun b => b < E.w.heap.size ∧ ¬ Own (upd m (some (.arr (.row k.sz none 0 []))) E.G) b ∧ ¬ E.F b, F := E.F, w := E.w, H := upd m (some (.arr fl k [] 0 none)) E.H, G := upd m (some (.arr (.row k.sz none 0 []))) E.G }
      have hb : (GRoot.arr (.row k.sz none 0 [])).blocks = [] := rfl
      have hc : Chg (· = m) n E E' := by
        refine ⟨fun q hq => upd_other _ _ hq, fun q hq => upd_other _ _ hq, Nat.le_refl _, rfl, rfl, rfl, fun b _ _ => rfl, fun b => Iff.rfl, ?_, fun d hd hlt => absurd (hd ▸ hlt) hm, rfl⟩
        rintro d gr rfl hgr b hb'
        simp only [E', upd_same, Option.some.injEq] at hgr
        subst hgr
        rw [hb] at hb'
        cases hb'
      have hgood : Good E' n' := by
        refine hc.good hg hmn.1 ?_ ?_ ?_ ?_ ?_
        · rintro d root rfl h
          simp only [E', upd_same, Option.some.injEq] at h
          subst h
          exact ⟨.arr (.row k.sz none 0 []), by simp [E', upd_same], none, 0, [], rfl, ⟨⟨by simp, Nat.le_refl _, .inl rfl⟩, trivial⟩, trivial⟩
        · rintro d rfl h; simp [E', upd_same] at h
        · rintro d d' g g' rfl rfl hne; exact absurd rfl hne
        · rintro d g rfl h
          simp only [E', upd_same, Option.some.injEq] at h
          subst h
          rw [hb]
          simp
        · rintro d root rfl h
          simp only [E', upd_same, Option.some.injEq] at h
          subst h
          exact ⟨hmn.2, by simp [Root.ids]⟩
      refine ⟨E', rfl, (hc.step hg hmn.1 hgood).post rfl ?_ (by simpa [AV.ids] using hmn.2)⟩
      refine ⟨Int.le_refl _, Int.le_refl _, ⟨none, 0, rfl, Nat.le_refl _, .inl rfl⟩, ?_⟩
      simp only [E', upd_same]
      refine ⟨⟨fun h => absurd rfl h, fun _ _ => ⟨[], _, rfl, rfl⟩⟩, fun _ q R hq hR => ?_⟩
      simp only [tpath, Option.some.injEq] at hq
      subst hq
      simp only [T.getRow, Option.some.injEq] at hR
      subst hR
      exact ⟨by simp, none, 0, rfl, rfl, .inl rfl⟩
    · cases hs

/-! ### Maps -/
theorem toList_inj {a b : ByteArray} : (a.toList == b.toList) = (a == b) := by
  rw [Go.ByteArray.toList_eq, Go.ByteArray.toList_eq]
  show (a.data.toList == b.data.toList) = (a.data == b.data)
  by_cases h : a.data = b.data
  · rw [h]; simp
  · have : a.data.toList ≠ b.data.toList := fun e => h (Array.ext' e)
    simp [h, this]

def keyD : K → TypeDesc
  | .int k => .int k
  | .str => .string
  | _ => .bool
theorem key_under {m : Nat} {t : TypeId} {kk : K} (h : KindIs P m t kk) (hk : keyKind kk = true) : P.underlying t = some (keyD kk) := by
  cases kk with
  | int k => exact kind_int h
  | bool => exact kind_bool h
  | str => exact kind_str h
  | _ => cases hk
theorem checkKey_run {m : Nat} {t : TypeId} {kk : K} (h : KindIs P m t kk) (hk : keyKind kk = true) (b : Bool) (v : Value) (w : World) : (Instr.checkKey b 10000 t v).run P w = .ok () w := by
  have hu := key_under h hk
  have : ∀ d, (Instr.checkKey b (d + 1) t v).run P w = .ok () w := by
    intro d
    unfold Instr.checkKey
    rw [Sem.run_bind, run_underlying hu, Result.andThen_ok]
    cases kk <;> first | (cases hk; done) | rfl
  exact this 9999
/-- One key, one value. -/
def keyV : (kk : K) → kk.D → Value
  | .int k, (n : Int) => .int k n
  | .bool, (b : Bool) => .bool b
  | .str, (s : ByteArray) => .string s
  | _, _ => undef
theorem keyV_of {S : Nat → Prop} {w : World} {kk : K} {d : kk.D} {v : Value} (hk : keyKind kk = true) (h : RepC S w kk d [v]) : v = keyV kk d := by
  cases kk with
  | int k => simp only [RepC] at h; injection h
  | bool => simp only [RepC] at h; injection h
  | str => simp only [RepC] at h; injection h
  | _ => cases hk
theorem keyV_relV {kk : K} {d : kk.D} {v : Value} (hk : keyKind kk = true) (h : RelV E (.data kk d) v) : v = keyV kk d := by
  have ha : kk.isAgg = false := by cases kk <;> first | rfl | cases hk
  simp only [RelV, ha] at h
  exact keyV_of hk h
theorem sameNow_key {kk : K} (hk : keyKind kk = true) (a b : kk.D) : Instr.sameNow (keyD kk) (keyV kk a) (keyV kk b) = some (kk.beq a b) := by
  cases kk with
  | int k => show (if k = k then some _ else none) = _; rw [if_pos rfl]; rfl
  | bool => rfl
  | str =>
    show some _ = some _
    congr 1
    exact toList_inj.symm
  | _ => cases hk

theorem findNow_ok {kk kv : K} (hk : keyKind kk = true) (key : kk.D) : ∀ (es : List (kk.D × kv.D)) (ms : List MapEntry) (i : Nat), All2 (RelEntry E kk kv) es ms →
    ∃ r, Instr.findNow (keyD kk) (keyV kk key) ms i = some r ∧ match lookupK kk kv key es, r with
      | none, none => True
      | some x, some (j, v) => RelV E (.data kv x) v
      | _, _ => False
  | [], [], i, _ => ⟨none, rfl, trivial⟩
  | e :: es, m :: ms, i, h => by
    have he := keyV_relV hk h.1.1
    unfold Instr.findNow lookupK
    rw [he, sameNow_key hk]
    cases hb : kk.beq key e.1 with
    | true => exact ⟨some (i, m.val), rfl, h.1.2⟩
    | false => exact findNow_ok hk key es ms (i + 1) h.2
  | [], _ :: _, _, h => h.elim
  | _ :: _, [], _, h => h.elim

theorem mapKinds_some {t : TypeId} {kk kv : K} (h : mapKinds (mkCx P hint glob) t kk kv = true) : ∃ a b, P.underlying t = some (.map a b) ∧ KindIs P 11 a kk ∧ KindIs P 11 b kv ∧ keyKind kk = true := by
  unfold mapKinds at h
  split at h
  · rename_i a b htd
    simp only [Bool.and_eq_true] at h
    obtain ⟨d, hu, hd⟩ := tdAt_under htd
    have hd := td_inv.2.2.2.2.1 _ _ hd
    subst hd
    exact ⟨a, b, hu, kindAt_some (eq_of_beq h.1.1), kindAt_some (eq_of_beq h.1.2), h.2⟩
  · cases h

theorem findKey_run {t : TypeId} {kk : K} {m : Nat} (h : KindIs P m t kk) (hk : keyKind kk = true) {v : Value} {ms : List MapEntry} {r : Option (Nat × Value)} (hr : Instr.findNow (keyD kk) v ms 0 = some r) (w : World) : (Instr.findKey t v ms).run P w = .ok r w := by
  unfold Instr.findKey
  rw [Sem.run_bind, run_underlying (key_under h hk), Result.andThen_ok, hr]
  rfl

theorem relV_zero {m : Nat} {t : TypeId} {k : K} (h : KindIs P m t k) : ∃ v, (∀ w, (zeroValue t).run P w = .ok v w) ∧ RelV E (.data k k.zero) v := by
  obtain ⟨info, d, v, h1, h2, h3, h4, h5, h6, h7⟩ := h.out
  refine ⟨v, run_zeroValue_of h1 h5, ?_⟩
  rw [relV_data]
  refine ⟨by rw [← sameVals_eq h6]; exact zero_rep k, fun hk => ?_, fun hk => ?_⟩
  · rw [hk] at h7
    cases v <;> first | exact ⟨_, rfl⟩ | cases h7
  · rw [hk] at h7
    cases v <;> first | cases h7; done | rfl

theorem lookup_ok {t : TypeId} {ma key r : AV} {vm vk : Value} {ok : Bool} (hg : Good E n) (hm : RelV E ma vm) (hk : RelV E key vk) (h : lookup (mkCx P hint glob) E.H t ma key ok = some r) :
    ∃ v, (Instr.lookup t vm vk ok).run P E.w = .ok v E.w ∧ RelV E r v ∧ r.ids = [] := by
  unfold lookup at h
  split at h
  · rename_i rr
    split at h
    · rename_i kk kv es hH
      split at h
      · rename_i kd hkd hmk
        injection h with h
        obtain ⟨a, b, hu, ha, hb, hkk⟩ := mapKinds_some hmk
        obtain ⟨g, ents, clock, hG, _, hfl, hh, hl⟩ := hg.map hH
        obtain ⟨g', rfl, hg'⟩ := hm
        rw [hg' _ _ _ hH] at hG
        injection hG with hG
        injection hG with hG
        subst hG
        have hka : kk.isAgg = false := by cases kk <;> first | rfl | cases hkk
        obtain ⟨k1, _, k3⟩ := asData_ok (S' := fun _ => True) hg (SubH.refl _) (fun _ _ => trivial) (fun _ _ _ _ _ _ _ _ _ _ _ => trivial) hk hkd
        rw [k3 hka] at k1
        have hvk := keyV_of hkk k1
        obtain ⟨fr, f1, f2⟩ := findNow_ok (E := E) hkk kd es ents.toList 0 hl
        rw [← hvk] at f1
        have hf := findKey_run ha hkk f1 E.w
        have hck := checkKey_run ha hkk ents.isEmpty vk E.w
        obtain ⟨z, hz1, hz2⟩ := relV_zero (E := E) hb
        have fin : ∀ (x : kv.D) (v : Value) (okb : Bool), RelV E (.data kv x) v → r = lookRes ok kv x okb →
            RelV E r (if ok then .tuple #[v, .bool okb] else v) ∧ r.ids = [] := by
          rintro x v okb hx rfl
          cases ok with
          | true => exact ⟨⟨_, rfl, RelAll.iff.2 ⟨hx, relV_boolV.2 rfl, trivial⟩⟩, rfl⟩
          | false => exact ⟨hx, rfl⟩
        cases hlk : lookupK kk kv kd es with
        | none =>
          rw [hlk] at f2 h
          cases fr with
          | some p => exact f2.elim
          | none =>
            refine ⟨_, ?_, fin kv.zero z false hz2 h.symm⟩
            simp [Instr.lookup, run_underlying hu, run_getObj hh (by simp), hck, hf, hz1]
        | some x =>
          rw [hlk] at f2 h
          cases fr with
          | none => exact f2.elim
          | some p =>
            obtain ⟨j, v⟩ := p
            refine ⟨_, ?_, fin x v true f2 h.symm⟩
            simp [Instr.lookup, run_underlying hu, run_getObj hh (by simp), hck, hf]
      · cases h
    · cases h
  · cases h
end
end Go.Lite
end

section
/-
  LITE 23: stores into variables and maps.
-/
set_option linter.unusedVariables false
set_option linter.unusedSimpArgs false
namespace Go.Lite
open Go Go.RowKit

/-- One block of a root written, the root's place kept. -/
theorem put_step {E : Env} {r g : Nat} {n : Nat → Prop} {root' : Root} {gr : GRoot} {w' : World} (hg : Good E n) (hr : ∃ root, E.H r = some root) (hG : E.G r = some gr) (hb : g ∈ gr.blocks) (hsz : w'.heap.size = E.w.heap.size) (hos : w'.os = E.w.os) (htp : w'.tape = E.w.tape) (hou : w'.output = E.w.output)
    (hkeep : ∀ b, b ≠ g → w'.heap[b]? = E.w.heap[b]?) (hx : ExtR (E.H r) (some root') (some gr) (some gr)) (hids : ∀ q ∈ root'.ids, n q)
    (hrel : Ext n E ⟨E.S, w', upd r (some root') E.H, E.G, E.F⟩ → RelRoot ⟨E.S, w', upd r (some root') E.H, E.G, E.F⟩ root' gr) : Step1 E n ⟨E.S, w', upd r (some root') E.H, E.G, E.F⟩ n := by
  have hc : Chg (· = r) n E ⟨E.S, w', upd r (some root') E.H, E.G, E.F⟩ := by
    refine ⟨fun q hq => upd_other _ _ hq, fun q _ => rfl, by simp [hsz], hos, htp, hou, fun b _ hb' => hkeep b (fun h => hb' r gr rfl hG (h ▸ hb)), fun b => ?_, ?_, ?_, rfl⟩
    · simp only [hsz]; exact hg.S b
    · rintro d gd rfl hgd b hbd
      exact ⟨by simp only [hsz]; exact hg.lt b ⟨d, gd, hgd, hbd⟩, .inr ⟨d, gd, rfl, hgd, hbd⟩⟩
    · rintro d rfl _
      simp only [upd_same, hG]
      exact hx
  obtain ⟨root, hroot⟩ := hr
  refine hc.step hg (fun _ h => h) (hc.good hg (fun _ h => h) ?_ ?_ ?_ ?_ ?_)
  · rintro d root2 rfl h
    simp only [upd_same, Option.some.injEq] at h
    subst h
    exact ⟨gr, hG, hrel (hc.toExt hg)⟩
  · rintro d rfl h; simp [upd_same] at h
  · rintro d d' g1 g2 rfl rfl hne; exact absurd rfl hne
  · rintro d gd rfl hgd; exact hg.nodup d gd hgd
  · rintro d root2 rfl h
    simp only [upd_same, Option.some.injEq] at h
    subst h
    exact ⟨hg.id_lt hroot, hids⟩

section
variable {P : Program} {hint : Nat → Hint} {glob : Nat → Option Comp} {E : Env} {n : Nat → Prop}

theorem storeBox_ok {t : TypeId} {r off : Nat} {x : AV} {va vx : Value} {H' : Heap} (hg : Good E n) (ha : RelV E (.ptr r off) va) (hx : RelV E x vx) (hn : ∀ q ∈ x.ids, n q) (h : store (mkCx P hint glob) E.H t (.ptr r off) x = some H') :
    ∃ E', (Instr.storeAt t va vx).run P E.w = .ok () E'.w ∧ Step1 E n E' n ∧ E'.H = H' := by
  simp only [store] at h
  split at h
  · rename_i cells i cs hH hi hcs
    split at h
    · rename_i hck
      injection h with h
      subst h
      simp only [Bool.and_eq_true, beq_iff_eq, decide_eq_true_eq] at hck
      obtain ⟨g, vs, e, hG, hh, hl⟩ := hg.box hH
      obtain ⟨g', rfl, hg'⟩ := ha
      rw [hg' cells hH] at hG
      injection hG with hG
      injection hG with hG
      subst hG
      obtain ⟨info, d, h1, h2, h3, h4, h5, h6⟩ := ty_some hi
      obtain ⟨r1, r2, r3⟩ := cellsOf_rel hcs hx
      have hlv := r1.length
      have hl0 := hl.length
      have hl2 : vx.cells.toList.length = vx.cells.size := Array.length_toList
      have hl3 : vs.toList.length = vs.size := Array.length_toList
      have hrun := run_storeCells_at P g' off e vx.cells.toList 0 vs E.w hh (by omega) (all2_one r2 r1)
      rw [Nat.add_zero] at hrun
      have hst := put_step (w' := E.w.setRow g' (vs.toList.take off ++ vx.cells.toList ++ vs.toList.drop (off + vx.cells.toList.length)).toArray) (root' := .box (setCells cells off cs)) hg ⟨_, hH⟩ (hg' cells hH) (by simp [GRoot.blocks]) (setRow_size _ _ _) rfl rfl rfl
        (fun b hb => setRow_other _ _ _ _ hb) (by rw [hH]; exact ⟨⟨_, rfl⟩, rfl⟩) (fun q hq => by
          rcases setCells_ids q hq with h | h
          · exact (hg.names r _ hH).2 q h
          · exact hn q (r3 q h)) (fun hext => by
          refine ⟨_, e, setRow_heap _ _ _ _ _ _ hh, ?_⟩
          exact RelAll2.ext hext (fun q hq => by
            rcases setCells_ids q hq with h | h
            · exact (hg.names r _ hH).2 q h
            · exact hn q (r3 q h)) (all2_setCells hl r1))
      refine ⟨_, ?_, hst, rfl⟩
      simp only [Instr.storeAt, Instr.sureAddr, Sem.run_bind, Sem.run_pure, Result.andThen_ok, storeVar, run_sizeOf_of h1]
      rw [if_neg (by omega)]
      exact hrun
    · cases h
  · cases h

theorem sb_int (k : IntKind) (a b : Int) (h : (a == b) = true) : Instr.sameBits 10000 (.int k b) (.int k a) = true := by
  have h := eq_of_beq h
  subst h
  show (k == k && a == a) = true
  simp
theorem sb_bool (a b : Bool) (h : (a == b) = true) : Instr.sameBits 10000 (.bool b) (.bool a) = true := by
  have h := eq_of_beq h
  subst h
  show (a == a) = true
  simp
theorem sb_str (a b : ByteArray) (h : (a.toList == b.toList) = true) : Instr.sameBits 10000 (.string b) (.string a) = true := by
  have h := eq_of_beq h
  show (b == a) = true
  rw [← toList_inj, h]
  simp
theorem sameBits_key {kk : K} (hk : keyKind kk = true) (a b : kk.D) (h : kk.beq a b = true) : Instr.sameBits 10000 (keyV kk b) (keyV kk a) = true := by
  cases kk with
  | int k => exact sb_int k a b h
  | bool => exact sb_bool a b h
  | str => exact sb_str a b h
  | _ => cases hk

theorem insert_find {kk kv : K} (hk : keyKind kk = true) (key : kk.D) (v : kv.D) : ∀ (es : List (kk.D × kv.D)) (ms : List MapEntry) (j : Nat), All2 (RelEntry E kk kv) es ms →
    (Instr.findNow (keyD kk) (keyV kk key) ms j = some none ∧ insertK kk kv key v es = es ++ [(key, v)]) ∨
    ∃ p m, Instr.findNow (keyD kk) (keyV kk key) ms j = some (some (j + p, m.val)) ∧ ms[p]? = some m ∧ Instr.sameBits 10000 m.key (keyV kk key) = true ∧ insertK kk kv key v es = es.set p (key, v)
  | [], [], j, _ => .inl ⟨rfl, rfl⟩
  | e :: es, m :: ms, j, h => by
    have he := keyV_relV hk h.1.1
    unfold Instr.findNow insertK
    rw [he, sameNow_key hk]
    cases hb : kk.beq key e.1 with
    | true => exact .inr ⟨0, m, rfl, rfl, by rw [he]; exact sameBits_key hk key e.1 hb, rfl⟩
    | false =>
      rcases insert_find hk key v es ms (j + 1) h.2 with ⟨h1, h2⟩ | ⟨p, m', h1, h2, h3, h4⟩
      · exact .inl ⟨h1, by rw [h2]; rfl⟩
      · exact .inr ⟨p + 1, m', by rw [show j + (p + 1) = j + 1 + p by omega]; exact h1, by simpa using h2, h3, by rw [h4]; rfl⟩
  | [], _ :: _, _, h => h.elim
  | _ :: _, [], _, h => h.elim

theorem all2_set {α β : Type} {R : α → β → Prop} : ∀ {l : List α} {m : List β} {p : Nat} {a : α} {b : β}, All2 R l m → R a b → All2 R (l.set p a) (m.set p b)
  | [], [], _, _, _, _, _ => trivial
  | _ :: _, _ :: _, 0, _, _, h, hab => ⟨hab, h.2⟩
  | _ :: _, _ :: _, p + 1, _, _, h, hab => ⟨h.1, all2_set h.2 hab⟩
  | [], _ :: _, _, _, _, h, _ => h.elim
  | _ :: _, [], _, _, _, h, _ => h.elim

theorem run_setObj {g : Nat} {o o' : Obj} {w : World} (h : w.heap[g]? = some o) (hc : ∀ c e f, o ≠ .cells c e f) : (setObj g o').run P w = .ok () { w with heap := w.heap.setIfInBounds g o' } := by
  cases o <;> first | exact absurd rfl (hc _ _ _) | simp [setObj, Sem.run, h]

theorem mapUpdate_ok {t : TypeId} {ma key x : AV} {vm vk vx : Value} {H' : Heap} (hg : Good E n) (hm : RelV E ma vm) (hk : RelV E key vk) (hx : RelV E x vx) (h : mapUpdate (mkCx P hint glob) E.H t ma key x = some H') :
    ∃ E', (Instr.mapUpdate t vm vk vx).run P E.w = .ok () E'.w ∧ Step1 E n E' n ∧ E'.H = H' := by
  unfold mapUpdate at h
  split at h
  · rename_i r
    split at h
    · rename_i kk kv es hH
      split at h
      · rename_i kd xd hkd hxd
        split at h
        · rename_i hck
          injection h with h
          subst h
          simp only [Bool.and_eq_true] at hck
          obtain ⟨⟨hkk, hflat⟩, hmk⟩ := hck
          obtain ⟨a, b, hu, ha, hb, _⟩ := mapKinds_some hmk
          obtain ⟨g, ents, clock, hG, _, hfl, hh, hl⟩ := hg.map hH
          obtain ⟨g', rfl, hg'⟩ := hm
          have hG' := hg' _ _ _ hH
          rw [hG'] at hG
          injection hG with hG
          injection hG with hG
          subst hG
          have hka : kk.isAgg = false := by cases kk <;> first | rfl | cases hkk
          obtain ⟨k1, _, k3⟩ := asData_ok (S' := fun _ => True) hg (SubH.refl _) (fun _ _ => trivial) (fun _ _ _ _ _ _ _ _ _ _ _ => trivial) hk hkd
          rw [k3 hka] at k1
          have hvk := keyV_of hkk k1
          obtain ⟨x1, x2, x3⟩ := asData_ok (S' := fun _ => True) hg (SubH.refl _) (fun _ _ => trivial) (fun _ _ _ _ _ _ _ _ _ _ _ => trivial) hx hxd
          have hck := checkKey_run ha hkk false vk E.w
          have hlt : g' < E.w.heap.size := (Array.getElem?_eq_some_iff.1 hh).1
          have hent : ∀ (E' : Env) (born : Nat), RelEntry E' kk kv (kd, xd) { key := vk, val := vx, born := born } := by
            intro E' born
            refine ⟨?_, ?_⟩
            · simp only [RelV, hka]; exact RepC.flat kk (by cases kk <;> first | rfl | cases hkk) _ _ k1
            · exact relV_data.2 ⟨RepC.flat kv hflat _ _ x1, x2, x3⟩
          have fin : ∀ (ents' : Array MapEntry) (clock' : Nat), (Instr.mapUpdate t (.map (some g')) vk vx).run P E.w = .ok () { E.w with heap := E.w.heap.setIfInBounds g' (.map ents' clock') } →
              (∀ E', Ext n E E' → All2 (RelEntry E' kk kv) (insertK kk kv kd xd es) ents'.toList) →
              ∃ E', (Instr.mapUpdate t (.map (some g')) vk vx).run P E.w = .ok () E'.w ∧ Step1 E n E' n ∧ E'.H = upd r (some (.mp kk kv (insertK kk kv kd xd es))) E.H := by
            intro ents' clock' hrun hall
            refine ⟨_, hrun, put_step (g := g') (gr := .mp g') (w' := { E.w with heap := E.w.heap.setIfInBounds g' (.map ents' clock') }) hg ⟨_, hH⟩ hG' (by simp [GRoot.blocks]) (by simp) rfl rfl rfl (fun b hb => by
              show (E.w.heap.setIfInBounds g' _)[b]? = _
              rw [Array.getElem?_setIfInBounds, if_neg (Ne.symm hb)]) (by rw [hH]; exact ⟨⟨_, rfl⟩, rfl⟩) (by simp [Root.ids]) (fun hext => ?_), rfl⟩
            exact ⟨hkk, hflat, ents', clock', by simp [Array.getElem?_setIfInBounds, hlt], hall _ hext⟩
          rcases insert_find (E := E) hkk kd xd es ents.toList 0 hl with ⟨f1, f2⟩ | ⟨p, m, f1, f2, f3, f4⟩
          · rw [← hvk] at f1
            have hf := findKey_run ha hkk f1 E.w
            refine fin (ents.push { key := vk, val := vx, born := clock }) (clock + 1) ?_ (fun E' hext => ?_)
            · simp [Instr.mapUpdate, run_underlying hu, run_getObj hh (by simp), hck, hf, run_setObj hh (by simp)]
            · rw [f2, Array.toList_push]
              exact All2.append (hl.imp (fun _ _ _ he => relEntry_ext hext he)) ⟨hent E' clock, trivial⟩
          · rw [← hvk] at f1 f3
            rw [Nat.zero_add] at f1
            have hf := findKey_run ha hkk f1 E.w
            have hp : ents[p]? = some m := by simpa using f2
            have hplt : p < ents.size := (Array.getElem?_eq_some_iff.1 hp).1
            have hpm : ents[p] = m := (Array.getElem?_eq_some_iff.1 hp).2
            refine fin (ents.modify p fun e => { e with key := vk, val := vx }) clock ?_ (fun E' hext => ?_)
            · simp [Instr.mapUpdate, run_underlying hu, run_getObj hh (by simp), hck, hf, hp, Instr.keyThatStays, f3, run_setObj hh (by simp)]
            · rw [f4]
              have : (ents.modify p fun e => { e with key := vk, val := vx }).toList = ents.toList.set p { key := vk, val := vx, born := m.born } := by
                apply List.ext_getElem?
                intro i
                rw [Array.getElem?_toList, Array.getElem?_modify, List.getElem?_set]
                by_cases hi : p = i
                · subst hi; simp [hplt, hpm]
                · simp [hi]
              rw [this]
              exact all2_set (hl.imp (fun _ _ _ he => relEntry_ext hext he)) (hent E' m.born)
        · cases h
      · cases h
    · cases h
  · cases h
end
end Go.Lite
end

section
/-
  LITE 24: a part of a value, or of a row, put in its place.
-/
set_option linter.unusedVariables false
set_option linter.unusedSimpArgs false
namespace Go.Lite
open Go Go.RowKit

theorem splice_right {α : Type} {a b ts : List α} {o n : Nat} : (a ++ b).take (a.length + o) ++ ts ++ (a ++ b).drop (a.length + o + n) = a ++ (b.take o ++ ts ++ b.drop (o + n)) := by
  rw [List.take_length_add_append, Nat.add_assoc, List.drop_length_add_append]
  simp [List.append_assoc]

theorem RepC.set1 {S : Nat → Prop} {w : World} : ∀ (k : K) (x x' : k.D) (f o : Nat) (k2 : K) (d : k2.D) (cs cs2 : List Value), RepC S w k x cs → k.off1 f = some (o, k2) → RepC S w k2 d cs2 → k.set1 x f ⟨k2, d⟩ = some x' →
    RepC S w k x' (cs.take o ++ cs2 ++ cs.drop (o + k2.sz))
  | .pair a b, x, x', 0, o, k2, d, cs, cs2, hr, ho, h2, h => by
    simp only [K.off1, Option.some.injEq, Prod.mk.injEq] at ho
    obtain ⟨rfl, rfl⟩ := ho
    obtain ⟨c1, c2, rfl, ha, hb⟩ := hr
    simp only [K.set1, cast_self] at h
    injection h with h
    subst h
    have hl := ha.length a _ _
    refine ⟨cs2, c2, ?_, h2, hb⟩
    rw [List.take_zero, List.nil_append, Nat.zero_add, ← hl, List.drop_left]
  | .pair a b, x, x', f + 1, o, k2, d, cs, cs2, hr, ho, h2, h => by
    simp only [K.off1] at ho
    split at ho
    · rename_i o1 k1 h1
      simp only [Option.some.injEq, Prod.mk.injEq] at ho
      obtain ⟨rfl, rfl⟩ := ho
      obtain ⟨c1, c2, rfl, ha, hb⟩ := hr
      simp only [K.set1] at h
      split at h
      · rename_i y hy
        injection h with h
        subst h
        have hl := ha.length a _ _
        refine ⟨c1, _, ?_, ha, RepC.set1 b x.2 y f o1 k1 d c2 cs2 hb h1 h2 hy⟩
        rw [← hl]
        exact splice_right
      · cases h
    · cases ho
  | .int _, _, _, _, _, _, _, _, _, _, h, _, _ => by cases h
  | .bool, _, _, _, _, _, _, _, _, _, h, _, _ => by cases h
  | .str, _, _, _, _, _, _, _, _, _, h, _, _ => by cases h
  | .unit, _, _, _, _, _, _, _, _, _, h, _, _ => by cases h
  | .slice _, _, _, _, _, _, _, _, _, _, h, _, _ => by cases h
  | .array _ _, _, _, _, _, _, _, _, _, _, h, _, _ => by cases h

theorem comp1_no (f : Nat) : Fl.no.comp1 f = .no := by cases f <;> rfl
theorem AbsT.set1 {S : Nat → Prop} {w : World} : ∀ (f : Nat) (fl : Fl) (k : K) (x x' : k.D) (o : Nat) (k2 : K) (d : k2.D) (ts ts2 : List T), AbsT S w fl k x ts → k.off1 f = some (o, k2) → AbsT S w (fl.comp1 f) k2 d ts2 → k.set1 x f ⟨k2, d⟩ = some x' →
    AbsT S w fl k x' (ts.take o ++ ts2 ++ ts.drop (o + k2.sz)) := by
  intro f fl
  induction fl generalizing f with
  | no =>
    intro k x x' o k2 d ts ts2 hr ho h2 h
    obtain ⟨vs, rfl, hr⟩ := hr
    rw [comp1_no] at h2
    obtain ⟨vs2, rfl, h2⟩ := h2
    exact ⟨_, by rw [← List.map_take, ← List.map_drop, ← List.map_append, ← List.map_append], RepC.set1 k x x' f o k2 d vs vs2 hr ho h2 h⟩
  | row g _ =>
    intro k x x' o k2 d ts ts2 hr ho h2 h
    cases k with
    | slice k => cases ho
    | _ => exact hr.elim
  | pr fa fb iha ihb =>
    intro k x x' o k2 d ts ts2 hr ho h2 h
    cases k with
    | pair a b =>
      obtain ⟨t1, t2, rfl, ha, hb⟩ := hr
      have hl := ha.length fa _ _ _
      cases f with
      | zero =>
        simp only [K.off1, Option.some.injEq, Prod.mk.injEq] at ho
        obtain ⟨rfl, rfl⟩ := ho
        simp only [K.set1, cast_self] at h
        injection h with h
        subst h
        refine ⟨ts2, t2, ?_, h2, hb⟩
        rw [List.take_zero, List.nil_append, Nat.zero_add, ← hl, List.drop_left]
      | succ f =>
        simp only [K.off1] at ho
        split at ho
        · rename_i o1 k1 h1
          simp only [Option.some.injEq, Prod.mk.injEq] at ho
          obtain ⟨rfl, rfl⟩ := ho
          simp only [K.set1] at h
          split at h
          · rename_i y hy
            injection h with h
            subst h
            refine ⟨t1, _, ?_, ha, ihb f b x.2 y o1 k1 d t2 ts2 hb h1 h2 hy⟩
            rw [← hl]
            exact splice_right
          · cases h
        · cases ho
    | _ => exact hr.elim

theorem splice_in {α : Type} (l ts : List α) (o o' n m : Nat) (h : o' + m ≤ n) (hl : o + n ≤ l.length) :
    l.take o ++ (((l.drop o).take n).take o' ++ ts ++ ((l.drop o).take n).drop (o' + m)) ++ l.drop (o + n) = l.take (o + o') ++ ts ++ l.drop (o + o' + m) := by
  rw [List.take_take, show min o' n = o' by omega, List.drop_take, List.drop_drop]
  have h1 : l.take o ++ (l.drop o).take o' = l.take (o + o') := by rw [List.take_add]
  have h2 : (l.drop (o + (o' + m))).take (n - (o' + m)) ++ l.drop (o + n) = l.drop (o + o' + m) := by
    have := List.take_append_drop (n - (o' + m)) (l.drop (o + o' + m))
    rw [List.drop_drop, show o + o' + m + (n - (o' + m)) = o + n by omega] at this
    rw [← this, show o + (o' + m) = o + o' + m by omega]
  rw [← h1, ← h2]
  simp [List.append_assoc]

theorem AbsT.set {S : Nat → Prop} {w : World} : ∀ (fs : List Nat) (fl : Fl) (k : K) (x x' : k.D) (o : Nat) (k2 : K) (d : k2.D) (ts ts2 : List T), AbsT S w fl k x ts → offs fs k = some (o, k2) → AbsT S w (Fl.comp fs fl) k2 d ts2 → K.set fs k x ⟨k2, d⟩ = some x' →
    AbsT S w fl k x' (ts.take o ++ ts2 ++ ts.drop (o + k2.sz))
  | [], fl, k, x, x', o, k2, d, ts, ts2, hr, ho, h2, h => by
    simp only [offs, Option.some.injEq, Prod.mk.injEq] at ho
    obtain ⟨rfl, rfl⟩ := ho
    simp only [K.set, cast_self, Option.some.injEq] at h
    subst h
    have hl := hr.length fl k _ _
    rw [List.take_zero, List.nil_append, Nat.zero_add, List.drop_of_length_le (by omega), List.append_nil]
    exact h2
  | f :: fs, fl, k, x, x', o, k2, d, ts, ts2, hr, ho, h2, h => by
    simp only [offs] at ho
    simp only [K.set] at h
    split at ho
    · rename_i o1 k1 ho1
      split at ho
      · rename_i o2 k3 ho2
        simp only [Option.some.injEq, Prod.mk.injEq] at ho
        obtain ⟨rfl, rfl⟩ := ho
        split at h
        · rename_i kc dc hc
          obtain ⟨oc, hoc⟩ := comp1_off1 k x f _ hc
          rw [ho1] at hoc
          simp only [Option.some.injEq, Prod.mk.injEq] at hoc
          obtain ⟨_, rfl⟩ := hoc
          split at h
          · rename_i y hy
            obtain ⟨_, hab⟩ := AbsT.comp1 f fl k x ts ⟨k1, dc⟩ o1 k1 hr hc ho1
            have hs := AbsT.set fs (fl.comp1 f) k1 dc y o2 k3 d _ ts2 hab ho2 h2 hy
            have hfin := AbsT.set1 f fl k x x' o1 k1 y ts _ hr ho1 hs h
            have hle := off1_le k f o1 k1 ho1
            have hlt := hr.length fl k _ _
            obtain ⟨dd, hdd⟩ := offs_comp fs k1 dc o2 k3 ho2
            obtain ⟨_, _, hle2⟩ := AbsT.comp fs (fl.comp1 f) k1 dc _ ⟨k3, dd⟩ o2 k3 hab hdd ho2
            rw [splice_in ts ts2 o1 o2 k1.sz k3.sz hle2 (by omega)] at hfin
            exact hfin
          · cases h
        · cases h
      · cases ho
    · cases ho
end Go.Lite
end

section
/-
  LITE 25: a row at the end of a path, changed.
-/
set_option linter.unusedVariables false
set_option linter.unusedSimpArgs false
namespace Go.Lite
open Go Go.RowKit

theorem set_splice {α : Type} {l : List α} {o : Nat} {u : α} (h : o < l.length) : l.take o ++ [u] ++ l.drop (o + 1) = l.set o u := by
  rw [List.set_eq_take_append_cons_drop, if_pos h]
  simp

theorem path_set {S : Nat → Prop} {w : World} : ∀ (p : List Step) (fl f : Fl) (k : K) (xs xs' : List k.D) (A : Option Addr) (c : Nat) (els : List (List T)) (q : List (Nat × Nat)) (R : RowT) (row : Rw) (ys : List row.k.D) (els' : List (List T)) (A' : Option Addr) (c' : Nat),
    All2 (AbsT S w fl k) xs els → tpath k p = some q → T.getRow q (.row k.sz A c els) = some R → fl.path p = some f → getP p k xs = some row → setP p k xs ⟨row.k, ys⟩ = some xs' → All2 (AbsT S w f row.k) ys els' →
    ∃ A2 c2 els2, T.setC q (.row row.k.sz A' c' els') (.row k.sz A c els) = some (.row k.sz A2 c2 els2) ∧ All2 (AbsT S w fl k) xs' els2 ∧ (q ≠ [] → A2 = A ∧ c2 = c ∧ els2.length = els.length)
  | [], fl, f, k, xs, xs', A, c, els, q, R, row, ys, els', A', c', ha, hq, hR, hf, hp, hs, hy => by
    simp only [tpath, Option.some.injEq] at hq
    subst hq
    simp only [Fl.path, Option.some.injEq] at hf
    subst hf
    simp only [getP, Option.some.injEq] at hp
    subst hp
    simp only [setP] at hs
    obtain ⟨e, hs⟩ := cast_some hs
    replace hs : xs' = ys := hs
    subst hs
    exact ⟨A', c', els', rfl, hy, fun h => absurd rfl h⟩
  | s :: p, fl, f, k, xs, xs', A, c, els, q, R, row, ys, els', A', c', ha, hq, hR, hf, hp, hs, hy => by
    simp only [tpath] at hq
    split at hq
    · rename_i o k' ho
      split at hq
      · rename_i q' hq'
        simp only [Option.some.injEq] at hq
        subst hq
        simp only [T.getRow] at hR
        split at hR
        · rename_i t ht
          obtain ⟨r, hr, hrt⟩ := at_some ht
          obtain ⟨x, hx, hax⟩ := ha.get' _ _ hr
          simp only [getP] at hp
          simp only [setP] at hs
          rw [List.getD_eq_getElem?_getD, hx, Option.getD_some] at hp
          rw [List.getD_eq_getElem?_getD, hx, Option.getD_some] at hs
          split at hp
          · rename_i k1 d hc
            obtain ⟨e, hab, hle⟩ := AbsT.comp s.fs fl k x r ⟨.slice k1, d⟩ o (.slice k') hax hc ho
            injection e with e
            subst e
            rw [hc] at hs
            simp only at hs
            split at hs
            · rename_i d' hd'
              split at hs
              · rename_i x' hx'
                simp only [Option.some.injEq] at hs
                subst hs
                simp only [Fl.path] at hf
                split at hf
                · rename_i g hg
                  rw [hg] at hab
                  obtain ⟨A1, c1, els1, he, ha1⟩ := hab
                  have hro := one_of_drop_take he
                  rw [hrt] at hro
                  injection hro with hro
                  subst hro
                  obtain ⟨A3, c3, els3, i1, i2, i3⟩ := path_set p g f k' d d' A1 c1 els1 q' R row ys els' A' c' ha1 hq' hR hf hp hd' hy
                  have hol : o < r.length := (List.getElem?_eq_some_iff.1 hrt).1
                  refine ⟨A, c, els.set s.i.toNat (r.set o (.row k'.sz A3 c3 els3)), ?_, ?_, fun _ => ⟨rfl, rfl, List.length_set⟩⟩
                  · simp only [T.setC, ht, i1, setEl, hr]
                  · refine all2_set ha ?_
                    have := AbsT.set s.fs fl k x x' o (.slice k') d' r [.row k'.sz A3 c3 els3] hax ho (by rw [hg]; exact ⟨A3, c3, els3, rfl, i2⟩) hx'
                    rw [show (K.slice k').sz = 1 from rfl, set_splice hol] at this
                    exact this
                · cases hf
              · cases hs
            · cases hs
          · cases hp
        · cases hR
      · cases hq
    · cases hq

/-! ### What a change leaves in order -/
theorem okRow_set {w w' : World} : ∀ (r : List T) (j : Nat) (u0 u1 : T), okRow w r → r[j]? = some u0 → (blocksRow r).Nodup → (∀ b ∈ blocksRow r, b ∉ u0.blocks → w'.heap[b]? = w.heap[b]?) → u1.ok w' → okRow w' (r.set j u1)
  | [], _, _, _, _, h, _, _, _ => by simp at h
  | x :: r, 0, u0, u1, ho, h, hn, hk, hu => by
    simp at h
    subst h
    simp only [blocksRow] at hn hk
    rw [List.nodup_append] at hn
    refine ⟨hu, okRow_mono r (fun b hb => hk b (by simp [hb]) (fun hb' => hn.2.2 b hb' b hb rfl)) ho.2⟩
  | x :: r, j + 1, u0, u1, ho, h, hn, hk, hu => by
    simp only [blocksRow] at hn hk
    rw [List.nodup_append] at hn
    have h' : r[j]? = some u0 := by simpa using h
    have hin : ∀ b ∈ u0.blocks, b ∈ blocksRow r := fun b hb => mem_blocksRow h' b hb
    exact ⟨T.ok_mono x (fun b hb => hk b (by simp [hb]) (fun hb' => hn.2.2 b hb b (hin b hb') rfl)) ho.1, okRow_set r j u0 u1 ho.2 h' hn.2.1 (fun b hb hb' => hk b (by simp [hb]) hb') hu⟩
theorem okEls_set {w w' : World} : ∀ (l : List (List T)) (i : Nat) (r : List T) (j : Nat) (u0 u1 : T), okEls w l → l[i]? = some r → r[j]? = some u0 → (blocksEls l).Nodup → (∀ b ∈ blocksEls l, b ∉ u0.blocks → w'.heap[b]? = w.heap[b]?) → u1.ok w' → okEls w' (l.set i (r.set j u1))
  | [], _, _, _, _, _, _, h, _, _, _, _ => by simp at h
  | x :: l, 0, r, j, u0, u1, ho, h, hr, hn, hk, hu => by
    simp at h
    subst h
    simp only [blocksEls] at hn hk
    rw [List.nodup_append] at hn
    have hin : ∀ b ∈ u0.blocks, b ∈ blocksRow x := fun b hb => mem_blocksRow hr b hb
    exact ⟨okRow_set x j u0 u1 ho.1 hr hn.1 (fun b hb hb' => hk b (by simp [hb]) hb') hu, okEls_mono l (fun b hb => hk b (by simp [hb]) (fun hb' => hn.2.2 b (hin b hb') b hb rfl)) ho.2⟩
  | x :: l, i + 1, r, j, u0, u1, ho, h, hr, hn, hk, hu => by
    simp only [blocksEls] at hn hk
    rw [List.nodup_append] at hn
    have h' : l[i]? = some r := by simpa using h
    have hin : ∀ b ∈ u0.blocks, b ∈ blocksEls l := fun b hb => mem_blocksEls h' b (mem_blocksRow hr b hb)
    exact ⟨okRow_mono x (fun b hb => hk b (by simp [hb]) (fun hb' => hn.2.2 b hb b (hin b hb') rfl)) ho.1, okEls_set l i r j u0 u1 ho.2 h' hr hn.2.1 (fun b hb hb' => hk b (by simp [hb]) hb') hu⟩

theorem setC_val : ∀ (q : List (Nat × Nat)) (sz2 : Nat) (els2 : List (List T)) (t t' : T) (R : RowT), T.setC q (.row sz2 R.A R.c els2) t = some t' → T.getRow q t = some R → els2.length = R.els.length → t'.val = t.val ∧ t' ≠ .gap
  | [], sz2, els2, t, t', R, h, hR, hl => by
    simp only [T.setC, Option.some.injEq] at h
    subst h
    cases t with
    | row sz A c els =>
      simp only [T.getRow, Option.some.injEq] at hR
      subst hR
      exact ⟨by simp only [T.val, hl], by simp⟩
    | _ => cases hR
  | (i, j) :: q, sz2, els2, t, t', R, h, hR, hl => by
    obtain ⟨sz, A, c, els, rfl⟩ := setC_isRow h
    obtain ⟨r, u0, u1, hr, hu0, hu1, rfl⟩ := setC_some h
    exact ⟨by simp only [T.val, setEl_length], by simp⟩
theorem getRow_blocks : ∀ (q : List (Nat × Nat)) (t : T) (R : RowT), T.getRow q t = some R → ∀ b ∈ (T.row R.sz R.A R.c R.els).blocks, b ∈ t.blocks
  | [], t, R, h, b, hb => by
    cases t with
    | row sz A c els => simp only [T.getRow, Option.some.injEq] at h; subst h; exact hb
    | _ => cases h
  | (i, j) :: q, t, R, h, b, hb => by
    simp only [T.getRow] at h
    split at h
    · rename_i u hu
      cases t with
      | row sz A c els =>
        obtain ⟨r, hr, hrj⟩ := at_some hu
        simp only [T.blocks, List.mem_append]
        exact .inr (mem_blocksEls hr b (mem_blocksRow hrj b (getRow_blocks q u R h b hb)))
      | _ => simp [T.at?] at hu
    · cases h
theorem row_nodup {sz : Nat} {A : Option Addr} {c : Nat} {els : List (List T)} (h : (T.row sz A c els).blocks.Nodup) : (blocksEls els).Nodup ∧ ∀ a ∈ headBlock A c, a ∉ blocksEls els := by
  simp only [T.blocks] at h
  rw [List.nodup_append] at h
  exact ⟨h.2.1, fun a ha hb => h.2.2 a ha a hb rfl⟩
theorem blocksRow_nodup {r : List T} {j : Nat} {u : T} : ∀ (r : List T) (j : Nat) (u : T), (blocksRow r).Nodup → r[j]? = some u → u.blocks.Nodup
  | [], _, _, _, h => by simp at h
  | x :: r, 0, u, hn, h => by simp at h; subst h; simp only [blocksRow] at hn; exact (List.nodup_append.1 hn).1
  | x :: r, j + 1, u, hn, h => by simp only [blocksRow] at hn; exact blocksRow_nodup (r := r) (j := j) (u := u) r j u (List.nodup_append.1 hn).2.1 (by simpa using h)
theorem blocksEls_nodup : ∀ (l : List (List T)) (i : Nat) (r : List T), (blocksEls l).Nodup → l[i]? = some r → (blocksRow r).Nodup
  | [], _, _, _, h => by simp at h
  | x :: l, 0, r, hn, h => by simp at h; subst h; simp only [blocksEls] at hn; exact (List.nodup_append.1 hn).1
  | x :: l, i + 1, r, hn, h => by simp only [blocksEls] at hn; exact blocksEls_nodup l i r (List.nodup_append.1 hn).2.1 (by simpa using h)

/-- A row's elements changed in place: all else stays in order. -/
theorem setC_ok {w w' : World} : ∀ (q : List (Nat × Nat)) (sz2 : Nat) (els2 : List (List T)) (t t' : T) (R : RowT), T.setC q (.row sz2 R.A R.c els2) t = some t' → T.getRow q t = some R → els2.length = R.els.length → t.ok w → t.blocks.Nodup →
    (∀ b ∈ t.blocks, b ∉ headBlock R.A R.c → w'.heap[b]? = w.heap[b]?) → (T.row sz2 R.A R.c els2).ok w' → t'.ok w'
  | [], sz2, els2, t, t', R, h, hR, hl, ho, hn, hk, hu => by
    simp only [T.setC, Option.some.injEq] at h
    subst h
    exact hu
  | (i, j) :: q, sz2, els2, t, t', R, h, hR, hl, ho, hn, hk, hu => by
    obtain ⟨sz, A, c, els, rfl⟩ := setC_isRow h
    obtain ⟨r, u0, u1, hr, hu0, hu1, rfl⟩ := setC_some h
    have hat : (T.row sz A c els).at? i j = some u0 := by simp only [T.at?, hr, hu0]
    simp only [T.getRow, hat] at hR
    obtain ⟨n1, n2⟩ := row_nodup hn
    have hrn := blocksEls_nodup els i r n1 hr
    have hun := blocksRow_nodup (r := r) (j := j) (u := u0) r j u0 hrn hu0
    have hin : ∀ b ∈ headBlock R.A R.c, b ∈ u0.blocks := fun b hb => getRow_blocks q u0 R hR b (by simp [T.blocks, hb])
    have hub : ∀ b ∈ u0.blocks, b ∈ blocksEls els := fun b hb => mem_blocksEls hr b (mem_blocksRow hu0 b hb)
    have hok0 : u0.ok w := okRow_get (okEls_get ho.2 hr) hu0
    have hu1ok : u1.ok w' := setC_ok q sz2 els2 u0 u1 R hu1 hR hl hok0 hun (fun b hb hb' => hk b (by simp [T.blocks, hub b hb]) hb') hu
    obtain ⟨v1, v2⟩ := setC_val q sz2 els2 u0 u1 R hu1 hR hl
    have hset : setEl els i j u1 = els.set i (r.set j u1) := by simp only [setEl, hr]
    refine ⟨?_, by rw [hset]; exact okEls_set els i r j u0 u1 ho.2 hr hu0 n1 (fun b hb hb' => hk b (by simp [T.blocks, hb]) (fun h => hb' (hin b h))) hu1ok⟩
    obtain ⟨o1, o2, o3⟩ := ho.1.mono (w' := w') (fun b hb => hk b (by simp [T.blocks, hb]) (fun h => n2 b hb (hub b (hin b h))))
    refine ⟨fun r' hr' => ?_, by rw [setEl_length]; exact o2, ?_⟩
    · rw [hset] at hr'
      rcases List.mem_or_eq_of_mem_set hr' with h | h
      · exact o1 r' h
      · rw [h, List.length_set]; exact o1 r (List.mem_of_getElem? hr)
    · rcases o3 with o3 | ⟨g, s, cells, e, hA, hh, hcap, hcell⟩
      · exact .inl o3
      · refine .inr ⟨g, s, cells, e, hA, hh, hcap, fun i2 r2 hr2 j2 t2 ht2 hg2 => ?_⟩
        have hat2 : (T.row sz A c (setEl els i j u1)).at? i2 j2 = some t2 := by simp only [T.at?, hr2, ht2]
        rw [setEl_get hr hu0] at hat2
        by_cases he : i2 = i ∧ j2 = j
        · rw [if_pos he] at hat2
          injection hat2 with hat2
          subst hat2
          obtain ⟨rfl, rfl⟩ := he
          rw [v1]
          by_cases hgap : u0 = .gap
          · subst hgap
            rw [getRow_gap] at hR
            cases hR
          · exact hcell i2 r hr j2 u0 hu0 hgap
        · rw [if_neg he] at hat2
          obtain ⟨r3, hr3, ht3⟩ := at_some hat2
          exact hcell i2 r3 hr3 j2 t2 ht3 hg2
end Go.Lite
end

section
/-
  LITE 26: the blocks of a changed tree; stores into elements.
-/
set_option linter.unusedVariables false
set_option linter.unusedSimpArgs false
namespace Go.Lite
open Go Go.RowKit

theorem nodup_mid {α : Type} {a b b' c : List α} {N : α → Prop} (h : (a ++ (b ++ c)).Nodup) (hb : b'.Nodup) (hs : ∀ x ∈ b', x ∈ b ∨ N x) (hn : ∀ x ∈ a ++ (b ++ c), ¬ N x) : (a ++ (b' ++ c)).Nodup := by
  rw [List.nodup_append, List.nodup_append] at h ⊢
  obtain ⟨h1, ⟨h2, h3, h4⟩, h5⟩ := h
  refine ⟨h1, ⟨hb, h3, fun x hx y hy hxy => ?_⟩, fun x hx y hy hxy => ?_⟩
  · subst hxy
    rcases hs x hx with h | h
    · exact h4 x h x hy rfl
    · exact hn x (by simp [hy]) h
  · subst hxy
    rcases List.mem_append.1 hy with hy | hy
    · rcases hs x hy with h | h
      · exact h5 x hx x (by simp [h]) rfl
      · exact hn x (by simp [hx]) h
    · exact h5 x hx x (by simp [hy]) rfl

theorem blocksRow_set {N : Nat → Prop} {u0 u1 : T} (hu : u1.blocks.Nodup) (hs : ∀ b ∈ u1.blocks, b ∈ u0.blocks ∨ N b) : ∀ (r : List T) (j : Nat), r[j]? = some u0 → (blocksRow r).Nodup → (∀ b ∈ blocksRow r, ¬ N b) →
    (blocksRow (r.set j u1)).Nodup ∧ ∀ b ∈ blocksRow (r.set j u1), b ∈ blocksRow r ∨ N b
  | [], _, h, _, _ => by simp at h
  | x :: r, 0, h, hn, hN => by
    simp at h
    subst h
    simp only [List.set_cons_zero, blocksRow] at hn hN ⊢
    refine ⟨nodup_mid (a := []) (N := N) hn hu hs hN, fun b hb => ?_⟩
    rcases List.mem_append.1 hb with hb | hb
    · rcases hs b hb with h | h
      · exact .inl (by simp [h])
      · exact .inr h
    · exact .inl (by simp [hb])
  | x :: r, j + 1, h, hn, hN => by
    simp only [List.set_cons_succ, blocksRow] at hn hN ⊢
    rw [List.nodup_append] at hn
    obtain ⟨i1, i2⟩ := blocksRow_set hu hs r j (by simpa using h) hn.2.1 (fun b hb => hN b (by simp [hb]))
    refine ⟨?_, fun b hb => ?_⟩
    · rw [List.nodup_append]
      refine ⟨hn.1, i1, fun a ha b hb hab => ?_⟩
      subst hab
      rcases i2 a hb with h | h
      · exact hn.2.2 a ha a h rfl
      · exact hN a (by simp [ha]) h
    · rcases List.mem_append.1 hb with hb | hb
      · exact .inl (by simp [hb])
      · rcases i2 b hb with h | h
        · exact .inl (by simp [h])
        · exact .inr h
theorem blocksEls_set {N : Nat → Prop} {r r' : List T} (hu : (blocksRow r').Nodup) (hs : ∀ b ∈ blocksRow r', b ∈ blocksRow r ∨ N b) : ∀ (l : List (List T)) (i : Nat), l[i]? = some r → (blocksEls l).Nodup → (∀ b ∈ blocksEls l, ¬ N b) →
    (blocksEls (l.set i r')).Nodup ∧ ∀ b ∈ blocksEls (l.set i r'), b ∈ blocksEls l ∨ N b
  | [], _, h, _, _ => by simp at h
  | x :: l, 0, h, hn, hN => by
    simp at h
    subst h
    simp only [List.set_cons_zero, blocksEls] at hn hN ⊢
    refine ⟨nodup_mid (a := []) (N := N) hn hu hs hN, fun b hb => ?_⟩
    rcases List.mem_append.1 hb with hb | hb
    · rcases hs b hb with h | h
      · exact .inl (by simp [h])
      · exact .inr h
    · exact .inl (by simp [hb])
  | x :: l, i + 1, h, hn, hN => by
    simp only [List.set_cons_succ, blocksEls] at hn hN ⊢
    rw [List.nodup_append] at hn
    obtain ⟨i1, i2⟩ := blocksEls_set hu hs l i (by simpa using h) hn.2.1 (fun b hb => hN b (by simp [hb]))
    refine ⟨?_, fun b hb => ?_⟩
    · rw [List.nodup_append]
      refine ⟨hn.1, i1, fun a ha b hb hab => ?_⟩
      subst hab
      rcases i2 a hb with h | h
      · exact hn.2.2 a ha a h rfl
      · exact hN a (by simp [ha]) h
    · rcases List.mem_append.1 hb with hb | hb
      · exact .inl (by simp [hb])
      · rcases i2 b hb with h | h
        · exact .inl (by simp [h])
        · exact .inr h

theorem blocks_setC {N : Nat → Prop} : ∀ (q : List (Nat × Nat)) (u t t' : T) (R : RowT), T.setC q u t = some t' → T.getRow q t = some R → t.blocks.Nodup → u.blocks.Nodup → (∀ b ∈ u.blocks, b ∈ (T.row R.sz R.A R.c R.els).blocks ∨ N b) → (∀ b ∈ t.blocks, ¬ N b) →
    t'.blocks.Nodup ∧ ∀ b ∈ t'.blocks, b ∈ t.blocks ∨ N b
  | [], u, t, t', R, h, hR, hn, hu, hs, hN => by
    simp only [T.setC, Option.some.injEq] at h
    subst h
    exact ⟨hu, fun b hb => (hs b hb).imp (fun h => getRow_blocks [] t R hR b h) id⟩
  | (i, j) :: q, u, t, t', R, h, hR, hn, hu, hs, hN => by
    obtain ⟨sz, A, c, els, rfl⟩ := setC_isRow h
    obtain ⟨r, u0, u1, hr, hu0, hu1, rfl⟩ := setC_some h
    have hat : (T.row sz A c els).at? i j = some u0 := by simp only [T.at?, hr, hu0]
    simp only [T.getRow, hat] at hR
    obtain ⟨n1, n2⟩ := row_nodup hn
    have hrn := blocksEls_nodup els i r n1 hr
    have hun := blocksRow_nodup (r := r) (j := j) (u := u0) r j u0 hrn hu0
    have hub : ∀ b ∈ u0.blocks, b ∈ blocksEls els := fun b hb => mem_blocksEls hr b (mem_blocksRow hu0 b hb)
    have hNe : ∀ b ∈ blocksEls els, ¬ N b := fun b hb => hN b (by simp [T.blocks, hb])
    obtain ⟨i1, i2⟩ := blocks_setC q u u0 u1 R hu1 hR hun hu hs (fun b hb => hNe b (hub b hb))
    obtain ⟨j1, j2⟩ := blocksRow_set (N := N) i1 i2 r j hu0 hrn (fun b hb => hNe b (mem_blocksEls hr b hb))
    obtain ⟨k1, k2⟩ := blocksEls_set (N := N) j1 j2 els i hr n1 hNe
    have hset : setEl els i j u1 = els.set i (r.set j u1) := by simp only [setEl, hr]
    rw [hset]
    simp only [T.blocks]
    refine ⟨?_, fun b hb => ?_⟩
    · rw [List.nodup_append]
      simp only [T.blocks] at hn
      refine ⟨(List.nodup_append.1 hn).1, k1, fun a ha b hb hab => ?_⟩
      subst hab
      rcases k2 a hb with h | h
      · exact n2 a ha h
      · exact hN a (by simp [T.blocks, ha]) h
    · rcases List.mem_append.1 hb with hb | hb
      · exact .inl (by simp [hb])
      · rcases k2 b hb with h | h
        · exact .inl (by simp [h])
        · exact .inr h

/-- Part of a row of cells put in. -/
theorem blocksRow_splice {N : Nat → Prop} {el ts : List T} {o m : Nat} (hn : (blocksRow el).Nodup) (ht : (blocksRow ts).Nodup) (hs : ∀ b ∈ blocksRow ts, N b) (hN : ∀ b ∈ blocksRow el, ¬ N b) :
    (blocksRow (el.take o ++ ts ++ el.drop (o + m))).Nodup ∧ ∀ b ∈ blocksRow (el.take o ++ ts ++ el.drop (o + m)), b ∈ blocksRow el ∨ N b := by
  have e : el = el.take o ++ ((el.drop o).take m ++ el.drop (o + m)) := by
    have h1 := List.take_append_drop m (el.drop o)
    rw [List.drop_drop] at h1
    rw [h1, List.take_append_drop]
  have hb : blocksRow el = blocksRow (el.take o) ++ (blocksRow ((el.drop o).take m) ++ blocksRow (el.drop (o + m))) := by
    conv => lhs; rw [e]
    rw [blocksRow_append, blocksRow_append]
  rw [hb] at hn hN
  rw [List.append_assoc, blocksRow_append, blocksRow_append]
  refine ⟨nodup_mid (N := N) hn ht (fun x hx => .inr (hs x hx)) hN, fun b hb' => ?_⟩
  rw [hb]
  rcases List.mem_append.1 hb' with h | h
  · exact .inl (by simp [h])
  · rcases List.mem_append.1 h with h | h
    · exact .inr (hs b h)
    · exact .inl (by simp [h])
theorem okRow_splice {w : World} {el ts : List T} {o m : Nat} (h : okRow w el) (ht : okRow w ts) : okRow w (el.take o ++ ts ++ el.drop m) := by
  have app : ∀ (a b : List T), okRow w a → okRow w b → okRow w (a ++ b) := by
    intro a
    induction a with
    | nil => exact fun b _ hb => hb
    | cons x a ih => exact fun b ha hb => ⟨ha.1, ih b ha.2 hb⟩
  have h1 : okRow w (el.take o) := (okRow_append (t1 := el.take o) (t2 := el.drop o) (by rw [List.take_append_drop]; exact h)).1
  have h2 : okRow w (el.drop m) := (okRow_append (t1 := el.take m) (t2 := el.drop m) (by rw [List.take_append_drop]; exact h)).2
  exact app _ _ (app _ _ h1 ht) h2

/-- The cells of a row after a write into one element. -/
theorem rowOk_write {w : World} {sz : Nat} {c g s : Nat} {els : List (List T)} {cells : Array Value} {e : TypeId} {i o : Nat} {el ts : List T} {vs : List Value} (h : RowOk w sz (some ⟨g, s, none⟩) c els) (hh : w.heap[g]? = some (.cells cells e (0, 0)))
    (hcap : s + c * sz ≤ cells.size) (hel : els[i]? = some el) (hts : ts.map T.val = vs) (hle : o + ts.length ≤ sz) :
    RowOk (w.setRow g (cells.toList.take (s + i * sz + o) ++ vs ++ cells.toList.drop (s + i * sz + o + vs.length)).toArray) sz (some ⟨g, s, none⟩) c (els.set i (el.take o ++ ts ++ el.drop (o + ts.length))) := by
  obtain ⟨h1, h2, h3⟩ := h
  have hil : i < els.length := (List.getElem?_eq_some_iff.1 hel).1
  have hell := h1 el (List.mem_of_getElem? hel)
  have hvl : vs.length = ts.length := by rw [← hts, List.length_map]
  have hmul : (i + 1) * sz ≤ c * sz := Nat.mul_le_mul_right _ (by omega)
  rw [Nat.add_mul] at hmul
  have hcl : cells.toList.length = cells.size := Array.length_toList
  refine ⟨fun r hr => ?_, by rw [List.length_set]; exact h2, .inr ⟨g, s, _, e, rfl, setRow_heap w g cells _ e (0, 0) hh, ?_, fun i2 r2 hr2 j2 t2 ht2 hg2 => ?_⟩⟩
  · rcases List.mem_or_eq_of_mem_set hr with h | h
    · exact h1 r h
    · rw [h, List.length_append, List.length_append, List.length_take, List.length_drop]; omega
  · simp only [List.size_toArray, List.length_append, List.length_take, List.length_drop]
    omega
  · rw [List.getElem?_set] at hr2
    rw [List.getElem?_toArray]
    by_cases hi : i = i2
    · subst hi
      rw [if_pos rfl, if_pos hil] at hr2
      injection hr2 with hr2
      subst hr2
      have hj2 := (List.getElem?_eq_some_iff.1 ht2).1
      rw [List.length_append, List.length_append, List.length_take, List.length_drop] at hj2
      by_cases hj : j2 < o
      · rw [List.append_assoc, List.getElem?_append_left (by rw [List.length_take]; omega), List.getElem?_take, if_pos hj] at ht2
        rw [List.append_assoc, List.getElem?_append_left (by rw [List.length_take]; omega), List.getElem?_take, if_pos (by omega)]
        rcases h3 with h3 | ⟨g', s', cells', e', hA, hh', _, hc⟩
        · omega
        · injection hA with hA
          injection hA with hA hB
          subst hA hB
          rw [hh] at hh'
          injection hh' with hh'
          injection hh' with hh'
          subst hh'
          rw [Array.getElem?_toList]
          exact hc i el hel j2 t2 ht2 hg2
      · by_cases hj' : j2 < o + ts.length
        · rw [List.append_assoc, List.getElem?_append_right (by rw [List.length_take]; omega), List.length_take, List.getElem?_append_left (by omega)] at ht2
          rw [List.append_assoc, List.getElem?_append_right (by rw [List.length_take]; omega), List.length_take, List.getElem?_append_left (by omega), ← hts, List.getElem?_map]
          rw [show s + i * sz + j2 - min (s + i * sz + o) cells.toList.length = j2 - min o el.length by omega, ht2]
          rfl
        · rw [List.getElem?_append_right (by rw [List.length_append, List.length_take]; omega), List.length_append, List.length_take, List.getElem?_drop] at ht2
          rw [List.getElem?_append_right (by rw [List.length_append, List.length_take]; omega), List.length_append, List.length_take, List.getElem?_drop]
          rw [show o + ts.length + (j2 - (min o el.length + ts.length)) = j2 by omega] at ht2
          rw [show s + i * sz + o + vs.length + (s + i * sz + j2 - (min (s + i * sz + o) cells.toList.length + vs.length)) = s + i * sz + j2 by omega]
          rcases h3 with h3 | ⟨g', s', cells', e', hA, hh', _, hc⟩
          · omega
          · injection hA with hA
            injection hA with hA hB
            subst hA hB
            rw [hh] at hh'
            injection hh' with hh'
            injection hh' with hh'
            subst hh'
            rw [Array.getElem?_toList]
            exact hc i el hel j2 t2 ht2 hg2
    · rw [if_neg hi] at hr2
      have hj2 := (List.getElem?_eq_some_iff.1 ht2).1
      rw [h1 r2 (List.mem_of_getElem? hr2)] at hj2
      have hsame : cells.toList[s + i2 * sz + j2]? = some t2.val := by
        rcases h3 with h3 | ⟨g', s', cells', e', hA, hh', _, hc⟩
        · omega
        · injection hA with hA
          injection hA with hA hB
          subst hA hB
          rw [hh] at hh'
          injection hh' with hh'
          injection hh' with hh'
          subst hh'
          rw [Array.getElem?_toList]
          exact hc i2 r2 hr2 j2 t2 ht2 hg2
      by_cases hlt : i2 < i
      · have hm : (i2 + 1) * sz ≤ i * sz := Nat.mul_le_mul_right _ hlt
        rw [Nat.add_mul] at hm
        rw [List.append_assoc, List.getElem?_append_left (by rw [List.length_take]; omega), List.getElem?_take, if_pos (by omega)]
        exact hsame
      · have hm : (i + 1) * sz ≤ i2 * sz := Nat.mul_le_mul_right _ (by omega)
        rw [Nat.add_mul] at hm
        rw [List.getElem?_append_right (by rw [List.length_append, List.length_take]; omega), List.length_append, List.length_take, List.getElem?_drop]
        rw [show s + i * sz + o + vs.length + (s + i2 * sz + j2 - (min (s + i * sz + o) cells.toList.length + vs.length)) = s + i2 * sz + j2 by omega]
        exact hsame
end Go.Lite
end

section
/-
  LITE 27: stores into elements.
-/
set_option linter.unusedVariables false
set_option linter.unusedSimpArgs false
namespace Go.Lite
open Go Go.RowKit

theorem getRow_ok {w : World} : ∀ (q : List (Nat × Nat)) (t : T) (R : RowT), t.ok w → T.getRow q t = some R → (T.row R.sz R.A R.c R.els).ok w
  | [], t, R, ho, h => by
    cases t with
    | row sz A c els => simp only [T.getRow, Option.some.injEq] at h; subst h; exact ho
    | _ => cases h
  | (i, j) :: q, t, R, ho, h => by
    simp only [T.getRow] at h
    split at h
    · rename_i u hu
      cases t with
      | row sz A c els =>
        obtain ⟨r, hr, hrj⟩ := at_some hu
        exact getRow_ok q u R (okRow_get (okEls_get ho.2 hr) hrj) h
      | _ => simp [T.at?] at hu
    · cases h
theorem getRow_nodup : ∀ (q : List (Nat × Nat)) (t : T) (R : RowT), t.blocks.Nodup → T.getRow q t = some R → (T.row R.sz R.A R.c R.els).blocks.Nodup
  | [], t, R, ho, h => by
    cases t with
    | row sz A c els => simp only [T.getRow, Option.some.injEq] at h; subst h; exact ho
    | _ => cases h
  | (i, j) :: q, t, R, ho, h => by
    simp only [T.getRow] at h
    split at h
    · rename_i u hu
      cases t with
      | row sz A c els =>
        obtain ⟨r, hr, hrj⟩ := at_some hu
        obtain ⟨n1, _⟩ := row_nodup ho
        exact getRow_nodup q u R (blocksRow_nodup (r := r) (j := j) (u := u) r j u (blocksEls_nodup els i r n1 hr) hrj) h
      | _ => simp [T.at?] at hu
    · cases h
theorem getRow_app : ∀ (q q2 : List (Nat × Nat)) (t : T) (R : RowT), T.getRow q t = some R → T.getRow (q ++ q2) t = T.getRow q2 (.row R.sz R.A R.c R.els)
  | [], q2, t, R, h => by
    cases t with
    | row sz A c els => simp only [T.getRow, Option.some.injEq] at h; subst h; rfl
    | _ => cases h
  | (i, j) :: q, q2, t, R, h => by
    simp only [T.getRow] at h
    simp only [List.cons_append, T.getRow]
    cases hat : t.at? i j with
    | none => rw [hat] at h; cases h
    | some u => rw [hat] at h; exact getRow_app q q2 u R h
theorem okEls_setRow {w : World} : ∀ (l : List (List T)) (i : Nat) (r' : List T), okEls w l → okRow w r' → okEls w (l.set i r')
  | [], _, _, _, _ => trivial
  | x :: l, 0, r', h, hr => ⟨hr, h.2⟩
  | x :: l, i + 1, r', h, hr => ⟨h.1, okEls_setRow l i r' h.2 hr⟩

/-- A write into an element of a row at the end of a path. -/
theorem node_write {w : World} {q : List (Nat × Nat)} {t t' : T} {R : RowT} {i o : Nat} {el ts : List T} {vs : List Value} (ho : t.ok w) (hn : t.blocks.Nodup) (hR : T.getRow q t = some R) (hel : R.els[i]? = some el) (hts : okRow w ts) (htn : (blocksRow ts).Nodup)
    (hdis : ∀ b ∈ blocksRow ts, b ∉ t.blocks) (hval : ts.map T.val = vs) (hle : o + ts.length ≤ R.sz) (hset : T.setC q (.row R.sz R.A R.c (R.els.set i (el.take o ++ ts ++ el.drop (o + ts.length)))) t = some t') :
    ∃ g s cells e, R.A = some ⟨g, s, none⟩ ∧ w.heap[g]? = some (.cells cells e (0, 0)) ∧ s + R.c * R.sz ≤ cells.size ∧ i < R.c ∧ g ∈ t.blocks ∧
      t'.ok (w.setRow g (cells.toList.take (s + i * R.sz + o) ++ vs ++ cells.toList.drop (s + i * R.sz + o + vs.length)).toArray) ∧ t'.blocks.Nodup ∧ ∀ b ∈ t'.blocks, b ∈ t.blocks ∨ b ∈ blocksRow ts := by
  have hok := getRow_ok q t R ho hR
  have hnd := getRow_nodup q t R hn hR
  have hil : i < R.els.length := (List.getElem?_eq_some_iff.1 hel).1
  have hsub := getRow_blocks q t R hR
  obtain ⟨n1, n2⟩ := row_nodup hnd
  have hc0 : R.c ≠ 0 := by have := hok.1.2.1; omega
  rcases hok.1.2.2 with h | ⟨g, s, cells, e, hA, hh, hcap, hcell⟩
  · exact absurd h hc0
  · have hhead := headBlock_pos hc0 hA
    have hg : g ∈ t.blocks := hsub g (by simp [T.blocks, hhead])
    have hrow := hok.1
    rw [hA] at hrow
    have hw := rowOk_write (i := i) (o := o) (el := el) (ts := ts) (vs := vs) hrow hh hcap hel hval hle
    have hother : ∀ b, b ≠ g → (w.setRow g (cells.toList.take (s + i * R.sz + o) ++ vs ++ cells.toList.drop (s + i * R.sz + o + vs.length)).toArray).heap[b]? = w.heap[b]? := fun b hb => setRow_other _ _ _ _ hb
    have hge : ∀ b ∈ blocksEls R.els, b ≠ g := fun b hb h => n2 g (by rw [hhead]; simp) (h ▸ hb)
    have hels : okEls (w.setRow g (cells.toList.take (s + i * R.sz + o) ++ vs ++ cells.toList.drop (s + i * R.sz + o + vs.length)).toArray) R.els := okEls_mono R.els (fun b hb => hother b (hge b hb)) hok.2
    have hts' : okRow (w.setRow g (cells.toList.take (s + i * R.sz + o) ++ vs ++ cells.toList.drop (s + i * R.sz + o + vs.length)).toArray) ts := okRow_mono ts (fun b hb => hother b (fun h => hdis b hb (h ▸ hg))) hts
    have hU : (T.row R.sz R.A R.c (R.els.set i (el.take o ++ ts ++ el.drop (o + ts.length)))).ok (w.setRow g (cells.toList.take (s + i * R.sz + o) ++ vs ++ cells.toList.drop (s + i * R.sz + o + vs.length)).toArray) :=
      ⟨by rw [hA]; exact hw, okEls_setRow _ _ _ hels (okRow_splice (okEls_get hels hel) hts')⟩
    have hok' := setC_ok q R.sz _ t t' R hset hR (by rw [List.length_set]) ho hn (fun b hb hb' => hother b (fun h => hb' (by rw [hhead, h]; simp))) hU
    have hdisE : ∀ b ∈ blocksEls R.els, ¬ b ∈ blocksRow ts := fun b hb h => hdis b h (hsub b (by simp [T.blocks, hb]))
    obtain ⟨s1, s2⟩ := blocksRow_splice (N := fun b => b ∈ blocksRow ts) (o := o) (m := ts.length) (blocksEls_nodup R.els i el n1 hel) htn (fun b hb => hb) (fun b hb => hdisE b (mem_blocksEls hel b hb))
    obtain ⟨e1, e2⟩ := blocksEls_set (N := fun b => b ∈ blocksRow ts) s1 s2 R.els i hel n1 hdisE
    obtain ⟨b1, b2⟩ := blocks_setC (N := fun b => b ∈ blocksRow ts) q _ t t' R hset hR hn (by
        simp only [T.blocks]
        rw [List.nodup_append]
        refine ⟨by rw [hhead]; simp, e1, fun a ha b hb hab => ?_⟩
        subst hab
        rcases e2 a hb with h | h
        · exact n2 a ha h
        · exact hdis a h (hsub a (by simp [T.blocks, ha]))) (fun b hb => by
        simp only [T.blocks] at hb
        rcases List.mem_append.1 hb with hb | hb
        · exact .inl (by simp [T.blocks, hb])
        · rcases e2 b hb with h | h
          · exact .inl (by simp [T.blocks, h])
          · exact .inr h) (fun b hb h => hdis b h hb)
    exact ⟨g, s, cells, e, hA, hh, hcap, by have := hok.1.2.1; omega, hg, hok', b1, b2⟩
end Go.Lite
end

section
/-
  LITE 28: stores into elements, the operation.
-/
set_option linter.unusedVariables false
set_option linter.unusedSimpArgs false
namespace Go.Lite
open Go Go.RowKit

theorem getP_kind : ∀ (p : List Step) (k : K) (xs : List k.D) (row : Rw), getP p k xs = some row → pathKind k p = some row.k ∧ ∃ q, tpath k p = some q
  | [], k, xs, row, h => by simp only [getP, Option.some.injEq] at h; subst h; exact ⟨rfl, [], rfl⟩
  | s :: p, k, xs, row, h => by
    simp only [getP] at h
    split at h
    · rename_i k' d hc
      obtain ⟨o, ho⟩ := comp_offs _ _ _ _ hc
      obtain ⟨h1, q, h2⟩ := getP_kind p k' d row h
      simp only at ho
      exact ⟨by simp only [pathKind, ho, h1], (s.i.toNat, o) :: q, by simp only [tpath, ho, h2]⟩
    · cases h
theorem nav_abs {S : Nat → Prop} {w : World} : ∀ (p : List Step) (fl f : Fl) (k : K) (xs : List k.D) (A : Option Addr) (c : Nat) (els : List (List T)) (q : List (Nat × Nat)) (R : RowT) (row : Rw),
    All2 (AbsT S w fl k) xs els → tpath k p = some q → T.getRow q (.row k.sz A c els) = some R → fl.path p = some f → getP p k xs = some row → R.sz = row.k.sz ∧ All2 (AbsT S w f row.k) row.xs R.els
  | [], fl, f, k, xs, A, c, els, q, R, row, ha, hq, hR, hf, hp => by
    simp only [tpath, Option.some.injEq] at hq
    subst hq
    simp only [T.getRow, Option.some.injEq] at hR
    subst hR
    simp only [Fl.path, Option.some.injEq] at hf
    subst hf
    simp only [getP, Option.some.injEq] at hp
    subst hp
    exact ⟨rfl, ha⟩
  | s :: p, fl, f, k, xs, A, c, els, q, R, row, ha, hq, hR, hf, hp => by
    simp only [tpath] at hq
    split at hq
    · rename_i o k' ho
      split at hq
      · rename_i q' hq'
        simp only [Option.some.injEq] at hq
        subst hq
        simp only [T.getRow] at hR
        split at hR
        · rename_i t ht
          obtain ⟨r, hr, hrt⟩ := at_some ht
          obtain ⟨x, hx, hax⟩ := ha.get' _ _ hr
          simp only [getP] at hp
          rw [List.getD_eq_getElem?_getD, hx, Option.getD_some] at hp
          split at hp
          · rename_i k1 d hc
            obtain ⟨e, hab, hle⟩ := AbsT.comp s.fs fl k x r ⟨.slice k1, d⟩ o (.slice k') hax hc ho
            injection e with e
            subst e
            simp only [Fl.path] at hf
            split at hf
            · rename_i g hg
              rw [hg] at hab
              obtain ⟨A1, c1, els1, he, ha1⟩ := hab
              have hro := one_of_drop_take he
              rw [hrt] at hro
              injection hro with hro
              subst hro
              exact nav_abs p g f k' d A1 c1 els1 q' R row ha1 hq' hR hf hp
            · cases hf
          · cases hp
        · cases hR
      · cases hq
    · cases hq

theorem setC_get : ∀ (q : List (Nat × Nat)) (sz : Nat) (A : Option Addr) (c : Nat) (els : List (List T)) (t0 t1 : T), T.setC q (.row sz A c els) t0 = some t1 → T.getRow q t1 = some ⟨sz, A, c, els⟩
  | [], sz, A, c, els, t0, t1, h => by simp only [T.setC, Option.some.injEq] at h; subst h; rfl
  | (i, j) :: q, sz, A, c, els, t0, t1, h => by
    obtain ⟨sz0, A0, c0, els0, rfl⟩ := setC_isRow h
    obtain ⟨r, u0, u1, hr, hu0, hu1, rfl⟩ := setC_some h
    simp only [T.getRow]
    rw [setEl_get hr hu0, if_pos ⟨rfl, rfl⟩]
    exact setC_get q sz A c els u0 u1 hu1
theorem setEl_setEl {els : List (List T)} {i j : Nat} {r : List T} {u v : T} (hr : els[i]? = some r) : setEl (setEl els i j u) i j v = setEl els i j v := by
  have hi := (List.getElem?_eq_some_iff.1 hr).1
  have h1 : setEl els i j u = els.set i (r.set j u) := by simp only [setEl, hr]
  have h2 : (els.set i (r.set j u))[i]? = some (r.set j u) := by rw [List.getElem?_set, if_pos rfl, if_pos hi]
  rw [h1]
  simp only [setEl, h2, hr, List.set_set]
theorem setC_setC : ∀ (q : List (Nat × Nat)) (u v t0 t1 : T), T.setC q u t0 = some t1 → T.setC q v t1 = T.setC q v t0
  | [], u, v, t0, t1, h => by simp only [T.setC]
  | (i, j) :: q, u, v, t0, t1, h => by
    obtain ⟨sz0, A0, c0, els0, rfl⟩ := setC_isRow h
    obtain ⟨r, u0, u1, hr, hu0, hu1, rfl⟩ := setC_some h
    have ih := setC_setC q u v u0 u1 hu1
    have hat : (T.row sz0 A0 c0 els0).at? i j = some u0 := by simp only [T.at?, hr, hu0]
    simp only [T.setC]
    rw [setEl_get hr hu0, if_pos ⟨rfl, rfl⟩, hat]
    simp only [ih]
    cases T.setC q v u0 with
    | none => rfl
    | some x => simp only [setEl_setEl hr]
theorem setC_snoc : ∀ (q : List (Nat × Nat)) (i o : Nat) (u t0 t1 : T), T.setC (q ++ [(i, o)]) u t0 = some t1 →
    ∃ R0 r, T.getRow q t0 = some R0 ∧ R0.els[i]? = some r ∧ o < r.length ∧ T.setC q (.row R0.sz R0.A R0.c (R0.els.set i (r.set o u))) t0 = some t1
  | [], i, o, u, t0, t1, h => by
    obtain ⟨sz0, A0, c0, els0, rfl⟩ := setC_isRow h
    obtain ⟨r, u0, u1, hr, hu0, hu1, rfl⟩ := setC_some h
    simp only [T.setC, Option.some.injEq] at hu1
    subst hu1
    refine ⟨⟨sz0, A0, c0, els0⟩, r, rfl, hr, (List.getElem?_eq_some_iff.1 hu0).1, ?_⟩
    simp only [T.setC, setEl, hr]
  | (a, b) :: q, i, o, u, t0, t1, h => by
    obtain ⟨sz0, A0, c0, els0, rfl⟩ := setC_isRow h
    obtain ⟨r, u0, u1, hr, hu0, hu1, rfl⟩ := setC_some h
    obtain ⟨R0, r0, h1, h2, h3, h4⟩ := setC_snoc q i o u u0 u1 hu1
    have hat : (T.row sz0 A0 c0 els0).at? a b = some u0 := by simp only [T.at?, hr, hu0]
    refine ⟨R0, r0, by simp only [T.getRow, hat]; exact h1, h2, h3, ?_⟩
    simp only [T.setC, hat, h4]
theorem tpath_snoc : ∀ (p : List Step) (s : Step) (k : K) (pq : List (Nat × Nat)), tpath k (p ++ [s]) = some pq → ∃ q k1 o k2, tpath k p = some q ∧ pathKind k p = some k1 ∧ offs s.fs k1 = some (o, .slice k2) ∧ pq = q ++ [(s.i.toNat, o)]
  | [], s, k, pq, h => by
    simp only [List.nil_append, tpath] at h
    split at h
    · rename_i o k' ho
      simp only [Option.some.injEq] at h
      exact ⟨[], k, o, k', rfl, rfl, ho, h.symm⟩
    · cases h
  | u :: p, s, k, pq, h => by
    simp only [List.cons_append, tpath] at h
    split at h
    · rename_i o k' ho
      split at h
      · rename_i q' hq'
        simp only [Option.some.injEq] at h
        subst h
        obtain ⟨q, k1, o1, k2, h1, h2, h3, rfl⟩ := tpath_snoc p s k' q' hq'
        exact ⟨(u.i.toNat, o) :: q, k1, o1, k2, by simp only [tpath, ho, h1], by simp only [pathKind, ho, h2], h3, rfl⟩
      · cases h
    · cases h

theorem absT_flat {S : Nat → Prop} {w : World} (fl : Fl) : ∀ (k : K) (d : k.D) (ts : List T), k.flatRows = true → AbsT S w fl k d ts → ∀ t ∈ ts, ∃ v, t = .leaf v := by
  induction fl with
  | no => rintro k d ts _ ⟨vs, rfl, _⟩ t ht; obtain ⟨v, _, rfl⟩ := List.mem_map.1 ht; exact ⟨v, rfl⟩
  | row f _ =>
    intro k d ts hk h
    cases k with
    | slice k => cases hk
    | _ => exact h.elim
  | pr a b iha ihb =>
    intro k d ts hk h
    cases k with
    | pair ka kb =>
      simp only [K.flatRows, Bool.and_eq_true] at hk
      obtain ⟨t1, t2, rfl, h1, h2⟩ := h
      intro t ht
      rcases List.mem_append.1 ht with ht | ht
      · exact iha _ _ _ hk.1 h1 t ht
      · exact ihb _ _ _ hk.2 h2 t ht
    | _ => exact h.elim

theorem upd_none_some {H : Heap} {q r : Nat} {x : Root} (h : upd q none H r = some x) : H r = some x := by
  by_cases hr : r = q
  · subst hr; rw [upd_same] at h; cases h
  · rw [upd_other _ _ hr] at h; exact h
theorem freeze_arr : ∀ (ids : List Nat) (H : Heap) (r : Nat) (fl : Fl) (k : K) (xs : List k.D) (ver : Nat) (hole : Option (List Step)), freeze H ids r = some (.arr fl k xs ver hole) → H r = some (.arr fl k xs ver hole)
  | [], _, _, _, _, _, _, _, h => h
  | q :: ids, H, r, fl, k, xs, ver, hole, h => by
    have other : freeze H (q :: ids) = freeze H ids → H r = some (.arr fl k xs ver hole) := fun e => freeze_arr ids H r fl k xs ver hole (by rw [← e]; exact h)
    cases hq : H q with
    | none => exact other (by simp only [freeze, hq])
    | some root =>
      cases root with
      | arr fl2 k2 xs2 ver2 hole2 =>
        cases hole2 with
        | some _ => exact other (by simp only [freeze, hq])
        | none =>
          simp only [freeze, hq] at h
          have := freeze_arr ids _ r fl k xs ver hole h
          by_cases hr : r = q
          · subst hr; rw [upd_same] at this; cases this
          · rw [upd_other _ _ hr] at this; exact this
      | _ => exact other (by simp only [freeze, hq])
theorem absorb_arr {cx : Cx} {H H' : Heap} {fl' : Fl} {k' : K} {v : AV} {d : k'.D} (h : absorb cx H fl' k' v = some (d, H')) {r : Nat} {fl : Fl} {k : K} {xs : List k.D} {ver : Nat} {hole : Option (List Step)} (hr : H' r = some (.arr fl k xs ver hole)) : H r = some (.arr fl k xs ver hole) := by
  unfold absorb at h
  split at h
  · split at h
    · split at h
      · split at h
        · simp only [Option.some.injEq, Prod.mk.injEq] at h
          obtain ⟨_, rfl⟩ := h
          exact upd_none_some hr
        · cases h
      · cases h
    · cases h
  · simp only [Option.some.injEq, Prod.mk.injEq] at h
    obtain ⟨_, rfl⟩ := h
    exact hr
  · split at h
    · simp only [Option.some.injEq, Prod.mk.injEq] at h
      obtain ⟨_, rfl⟩ := h
      cases hk : k'.flatRows with
      | true => rw [hk] at hr; exact hr
      | false => rw [hk] at hr; exact freeze_arr _ _ _ _ _ _ _ _ hr
    · cases h
  · cases h
end Go.Lite
end

section
/-
  LITE 29: a store into an element of a row of our own.
-/
set_option linter.unusedVariables false
set_option linter.unusedSimpArgs false
namespace Go.Lite
open Go Go.RowKit

/-- The tree of a root of our own, the row out of it put back in thought. -/
structure Whole (E : Env) (fl : Fl) (k : K) (xs : List k.D) (t1 : T) (p : List Step) (i : Int) (o m : Nat) (hole : Option (List Step)) : Prop where
  out : ∃ A c0 els q R0 R el0 el1, tpath k p = some q ∧ All2 (AbsT E.S E.w fl k) xs els ∧ T.getRow q (.row k.sz A c0 els) = some R0 ∧ T.getRow q t1 = some R ∧ R.sz = R0.sz ∧ R.A = R0.A ∧ R.c = R0.c ∧
    (∀ U, T.setC q U t1 = T.setC q U (.row k.sz A c0 els)) ∧ R0.els[i.toNat]? = some el0 ∧ R.els[i.toNat]? = some el1 ∧ R.els.length = R0.els.length ∧ (∀ Y, R.els.set i.toNat Y = R0.els.set i.toNat Y) ∧ t1.ok E.w ∧
    el1.take o = el0.take o ∧ el1.drop (o + m) = el0.drop (o + m) ∧ (hole = none → R = R0 ∧ el1 = el0)

theorem whole_of {E : Env} {r ver : Nat} {n : Nat → Prop} {fl : Fl} {k : K} {xs : List k.D} {hole : Option (List Step)} {t1 : T} {p : List Step} {i : Int} {fs : List Nat} {row : Rw} {o : Nat} {k2 : K} {v : Value} (hg : Good E n) (hH : E.H r = some (.arr fl k xs ver hole)) (hG : E.G r = some (.arr t1))
    (ha : ElRel E r ver p i fs v) (hpk : pathKind k p = some row.k) (ho : offs fs row.k = some (o, k2)) (hh : holeOk hole (p ++ [⟨i, fs⟩]) = true) : Whole E fl k xs t1 p i o k2.sz hole := by
  obtain ⟨h0, _, h2⟩ := ha
  rw [hH, hG] at h2
  obtain ⟨hpo, hcl⟩ := h2
  obtain ⟨gr, hgr, hrel⟩ := hg.roots r _ hH
  rw [hG] at hgr
  injection hgr with hgr
  subst hgr
  cases hole with
  | none =>
    obtain ⟨A, c0, els, rfl, hok, hall⟩ := hrel
    obtain ⟨q, R, hq, hR⟩ := hpo.2 (.inr rfl) rfl
    obtain ⟨hlt, _⟩ := hcl (.inr rfl) q R o _ _ hq hR hpk ho
    have hil : i.toNat < R.els.length := by omega
    exact ⟨A, c0, els, q, R, R, R.els[i.toNat], R.els[i.toNat], hq, hall, hR, hR, rfl, rfl, rfl, fun _ => rfl, List.getElem?_eq_getElem hil, List.getElem?_eq_getElem hil, rfl, fun _ => rfl, hok, rfl, rfl, fun _ => ⟨rfl, rfl⟩⟩
  | some hq =>
    have hh : hq = p ++ [⟨i, fs⟩] := eq_of_beq hh
    subst hh
    obtain ⟨A, c0, els, pq, hpq, hne, hall, hs, hok⟩ := hrel
    obtain ⟨q, k1, o1, k3, e1, e2, e3, rfl⟩ := tpath_snoc p ⟨i, fs⟩ k pq hpq
    rw [hpk] at e2
    injection e2 with e2
    subst e2
    simp only at e3
    rw [ho] at e3
    injection e3 with e3
    injection e3 with e3 e4
    subst e3 e4
    obtain ⟨R0, r0, f1, f2, f3, f4⟩ := setC_snoc q i.toNat o .gap _ t1 hs
    have f5 := setC_get q _ _ _ _ _ _ f4
    have hil : i.toNat < R0.els.length := (List.getElem?_eq_some_iff.1 f2).1
    refine ⟨A, c0, els, q, R0, _, r0, r0.set o .gap, e1, hall, f1, f5, rfl, rfl, rfl, fun U => setC_setC q _ U _ _ f4, f2, ?_, by simp, fun Y => by simp, hok, ?_, ?_, fun h => by cases h⟩
    · simp only [List.getElem?_set, if_true, if_pos hil]
    · rw [List.take_set, List.set_eq_of_length_le (by rw [List.length_take]; omega)]
    · rw [show (K.slice k3).sz = 1 from rfl, List.drop_set, if_pos (by omega)]

def Env.wr (E : Env) (H : Heap) (r : Nat) (root : Root) (t : T) (w : World) : Env :=
  let G : Nat → Option GRoot := upd r (some (.arr t)) fun q => (H q).bind fun _ => E.G q
  { S := fun b => b < w.heap.size ∧ ¬ Own G b ∧ ¬ E.F b, F := E.F, w := w, H := upd r (some root) H, G := G }

section
variable {P : Program} {hint : Nat → Hint} {glob : Nat → Option Comp} {E : Env} {n : Nat → Prop}

/-- A row of our own changed, with roots that go into it. -/
theorem wr_step {D : Nat → Prop} {H : Heap} {r g : Nat} {fl : Fl} {k : K} {xs xs' : List k.D} {ver ver' : Nat} {hole : Option (List Step)} {t1 t2 : T} {w' : World} {N : List Nat} {A2 : Option Addr} {c2 : Nat} {els2 : List (List T)} (hg : Good E n) (hH : Hid D H E.H) (hr : H r = some (.arr fl k xs ver hole)) (hG : E.G r = some (.arr t1))
    (hsz : w'.heap.size = E.w.heap.size) (hos : w'.os = E.w.os) (htp : w'.tape = E.w.tape) (hou : w'.output = E.w.output) (hgb : g ∈ t1.blocks) (hkeep : ∀ b, b ≠ g → w'.heap[b]? = E.w.heap[b]?)
    (ht2 : t2 = .row k.sz A2 c2 els2) (hall : All2 (AbsT E.S E.w fl k) xs' els2) (hok : t2.ok w') (hnd : t2.blocks.Nodup) (hbl : ∀ b ∈ t2.blocks, b ∈ t1.blocks ∨ b ∈ N) (hN : ∀ b ∈ N, ∃ d gr, D d ∧ E.G d = some gr ∧ b ∈ gr.blocks)
    (hext : ExtR (some (.arr fl k xs ver hole)) (some (.arr fl k xs' ver' none)) (some (.arr t1)) (some (.arr t2))) : Step1 E n (E.wr H r (.arr fl k xs' ver' none) t2 w') n := by
  obtain ⟨hnD, hEr⟩ := hH.some hr
  have hGD : ∀ d, d ≠ r → D d → (E.wr H r (.arr fl k xs' ver' none) t2 w').H d = none ∧ (E.wr H r (.arr fl k xs' ver' none) t2 w').G d = none := by
    intro d hdr hd
    simp only [Env.wr]
    rw [upd_other _ _ hdr, upd_other _ _ hdr, (hH d).1 hd]
    exact ⟨rfl, rfl⟩
  have hc : Chg (fun d => D d ∨ d = r) n E (E.wr H r (.arr fl k xs' ver' none) t2 w') := by
    refine ⟨fun d hd => ?_, fun d hd => ?_, by simp [Env.wr, hsz], hos, htp, hou, fun b _ hb => hkeep b (fun h => hb r _ (.inr rfl) hG (h ▸ hgb)), fun b => Iff.rfl, fun d gr hd hgr b hb => ?_, fun d hd _ => ?_, rfl⟩
    · have h1 : d ≠ r := fun h => hd (.inr h)
      have h2 : ¬ D d := fun h => hd (.inl h)
      simp only [Env.wr]
      rw [upd_other _ _ h1]
      exact (hH d).2 h2
    · have h1 : d ≠ r := fun h => hd (.inr h)
      have h2 : ¬ D d := fun h => hd (.inl h)
      simp only [Env.wr]
      rw [upd_other _ _ h1, (hH d).2 h2]
      cases h : E.H d with
      | none => rw [hg.none d h]; rfl
      | some root => rfl
    · by_cases hdr : d = r
      · subst hdr
        simp only [Env.wr, upd_same, Option.some.injEq] at hgr
        subst hgr
        rcases hbl b hb with h | h
        · exact ⟨by simp only [Env.wr, hsz]; exact hg.lt b ⟨d, _, hG, h⟩, .inr ⟨d, _, .inr rfl, hG, h⟩⟩
        · obtain ⟨d2, gr2, hd2, hg2, hb2⟩ := hN b h
          exact ⟨by simp only [Env.wr, hsz]; exact hg.lt b ⟨d2, gr2, hg2, hb2⟩, .inr ⟨d2, gr2, .inl hd2, hg2, hb2⟩⟩
      · rw [(hGD d hdr (hd.resolve_right hdr)).2] at hgr
        cases hgr
    · by_cases hdr : d = r
      · subst hdr
        rw [hEr, hG]
        simp only [Env.wr, upd_same]
        exact hext
      · rw [(hGD d hdr (hd.resolve_right hdr)).1]
        trivial
  have hx := hc.toExt hg
  refine hc.step hg (fun _ h => h) (hc.good hg (fun _ h => h) ?_ ?_ ?_ ?_ ?_)
  · intro d root hd h
    by_cases hdr : d = r
    · subst hdr
      simp only [Env.wr, upd_same, Option.some.injEq] at h
      subst h
      exact ⟨.arr t2, by simp only [Env.wr, upd_same], A2, c2, els2, ht2, hok, hall.imp (fun _ _ _ h => h.mono hx.stay fl k _ _)⟩
    · rw [(hGD d hdr (hd.resolve_right hdr)).1] at h
      cases h
  · intro d hd h
    by_cases hdr : d = r
    · subst hdr; simp [Env.wr, upd_same] at h
    · exact (hGD d hdr (hd.resolve_right hdr)).2
  · intro d d' g1 g2 hd hd' hne h1 h2
    have key : ∀ q gq, (D q ∨ q = r) → (E.wr H r (.arr fl k xs' ver' none) t2 w').G q = some gq → q = r := by
      intro q gq hq hgq
      by_cases hqr : q = r
      · exact hqr
      · rw [(hGD q hqr (hq.resolve_right hqr)).2] at hgq
        cases hgq
    exact absurd ((key d g1 hd h1).trans (key d' g2 hd' h2).symm) hne
  · intro d gd hd h
    by_cases hdr : d = r
    · subst hdr
      simp only [Env.wr, upd_same, Option.some.injEq] at h
      subst h
      exact hnd
    · rw [(hGD d hdr (hd.resolve_right hdr)).2] at h
      cases h
  · intro d root hd h
    by_cases hdr : d = r
    · subst hdr
      simp only [Env.wr, upd_same, Option.some.injEq] at h
      subst h
      exact ⟨hg.id_lt hEr, by simp [Root.ids]⟩
    · rw [(hGD d hdr (hd.resolve_right hdr)).1] at h
      cases h
end
end Go.Lite
end

section
/-
  LITE 30: a store into an element, the operation.
-/
set_option linter.unusedVariables false
set_option linter.unusedSimpArgs false
namespace Go.Lite
open Go Go.RowKit

section
variable {P : Program} {hint : Nat → Hint} {glob : Nat → Option Comp} {E : Env} {n : Nat → Prop}

theorem verNext_le (hole : Option (List Step)) (k : K) (ver : Nat) : ver ≤ verNext hole k ver := by
  unfold verNext; split <;> omega
theorem verNext_eq {hole : Option (List Step)} {k : K} {ver : Nat} (h : ver = verNext hole k ver) : hole = none ∧ k.flatRows = true := by
  unfold verNext at h
  split at h
  · rename_i hk; exact ⟨rfl, hk⟩
  · omega

theorem leaf_noRow {v : Value} : ∀ (q : List (Nat × Nat)), T.getRow q (.leaf v) = none
  | [] => rfl
  | _ :: _ => rfl
/-- Elements with other leaves: the same rows. -/
theorem skel_leaves {sz : Nat} {A : Option Addr} {c : Nat} {els : List (List T)} {i o m : Nat} {el ts : List T} (hel : els[i]? = some el) (ht : ∀ t ∈ ts, ∃ v, t = .leaf v) (he : ∀ t ∈ (el.drop o).take m, ∃ v, t = .leaf v) (hl : ts.length = m) (hle : o + m ≤ el.length) :
    Skel (.row sz A c els) (.row sz A c (els.set i (el.take o ++ ts ++ el.drop (o + m)))) ∧ Skel (.row sz A c (els.set i (el.take o ++ ts ++ el.drop (o + m)))) (.row sz A c els) := by
  have hil := (List.getElem?_eq_some_iff.1 hel).1
  have look : ∀ (i2 j2 : Nat), (∃ u u', (T.row sz A c els).at? i2 j2 = some u ∧ (T.row sz A c (els.set i (el.take o ++ ts ++ el.drop (o + m)))).at? i2 j2 = some u' ∧ (u = u' ∨ ((∃ v, u = .leaf v) ∧ ∃ v, u' = .leaf v))) ∨
      ((T.row sz A c els).at? i2 j2 = none ∧ (T.row sz A c (els.set i (el.take o ++ ts ++ el.drop (o + m)))).at? i2 j2 = none) := by
    intro i2 j2
    simp only [T.at?]
    rw [List.getElem?_set]
    by_cases hi : i = i2
    · subst hi
      rw [if_pos rfl, if_pos hil, hel]
      simp only
      by_cases h1 : j2 < o
      · rw [List.append_assoc, List.getElem?_append_left (by rw [List.length_take]; omega), List.getElem?_take, if_pos h1]
        have hj : j2 < el.length := by omega
        exact .inl ⟨_, _, List.getElem?_eq_getElem hj, List.getElem?_eq_getElem hj, .inl rfl⟩
      · by_cases h2 : j2 < o + m
        · have hj : j2 < el.length := by omega
          have e1 : (el.take o ++ ts ++ el.drop (o + m))[j2]? = ts[j2 - o]? := by
            rw [List.append_assoc, List.getElem?_append_right (by rw [List.length_take]; omega), List.length_take, show min o el.length = o by omega, List.getElem?_append_left (by omega)]
          have hj2 : j2 - o < ts.length := by omega
          refine .inl ⟨_, _, List.getElem?_eq_getElem hj, by rw [e1]; exact List.getElem?_eq_getElem hj2, .inr ⟨?_, ht _ (List.getElem_mem hj2)⟩⟩
          refine he _ (List.mem_of_getElem? (i := j2 - o) ?_)
          rw [List.getElem?_take, if_pos (by omega), List.getElem?_drop, show o + (j2 - o) = j2 by omega]
          exact List.getElem?_eq_getElem hj
        · have e1 : (el.take o ++ ts ++ el.drop (o + m))[j2]? = el[j2]? := by
            rw [List.getElem?_append_right (by rw [List.length_append, List.length_take]; omega), List.length_append, List.length_take, List.getElem?_drop]
            congr 1
            omega
          rw [e1]
          cases h : el[j2]? with
          | none => exact .inr ⟨rfl, rfl⟩
          | some u => exact .inl ⟨u, u, rfl, rfl, .inl rfl⟩
    · rw [if_neg hi]
      cases h : els[i2]? with
      | none => exact .inr ⟨rfl, rfl⟩
      | some r =>
        simp only
        cases h2 : r[j2]? with
        | none => exact .inr ⟨rfl, rfl⟩
        | some u => exact .inl ⟨u, u, rfl, rfl, .inl rfl⟩
  constructor
  · intro q R' hR'
    cases q with
    | nil => simp only [T.getRow, Option.some.injEq] at hR'; subst hR'; exact ⟨_, rfl, rfl, rfl, rfl, by simp⟩
    | cons ij q =>
      obtain ⟨i2, j2⟩ := ij
      simp only [T.getRow] at hR'
      rcases look i2 j2 with ⟨u, u', h1, h2, h3 | ⟨_, v, rfl⟩⟩ | ⟨_, h2⟩
      · subst h3; rw [h2] at hR'; exact ⟨R', by simp only [T.getRow, h1]; exact hR', rfl, rfl, rfl, rfl⟩
      · rw [h2] at hR'; simp only [leaf_noRow] at hR'; cases hR'
      · rw [h2] at hR'; cases hR'
  · intro q R' hR'
    cases q with
    | nil => simp only [T.getRow, Option.some.injEq] at hR'; subst hR'; exact ⟨_, rfl, rfl, rfl, rfl, by simp⟩
    | cons ij q =>
      obtain ⟨i2, j2⟩ := ij
      simp only [T.getRow] at hR'
      rcases look i2 j2 with ⟨u, u', h1, h2, h3 | ⟨⟨v, rfl⟩, _⟩⟩ | ⟨h1, _⟩
      · subst h3; rw [h1] at hR'; exact ⟨R', by simp only [T.getRow, h2]; exact hR', rfl, rfl, rfl, rfl⟩
      · rw [h1] at hR'; simp only [leaf_noRow] at hR'; cases hR'
      · rw [h1] at hR'; cases hR'
/-- And so along a path. -/
theorem skel_path {q : List (Nat × Nat)} {els2 : List (List T)} {t t' : T} {R : RowT} (h : T.setC q (.row R.sz R.A R.c els2) t = some t') (hR : T.getRow q t = some R) (hl : els2.length = R.els.length)
    (h1 : Skel (.row R.sz R.A R.c R.els) (.row R.sz R.A R.c els2)) (h2 : Skel (.row R.sz R.A R.c els2) (.row R.sz R.A R.c R.els)) : Skel t t' ∧ Skel t' t := by
  have hR' := setC_get q _ _ _ _ _ _ h
  constructor
  · intro q2 R2 hR2
    rcases setC_getRow q _ t t' h q2 R2 hR2 with ⟨q3, rfl, h3⟩ | h3
    · obtain ⟨R3, h4, h5⟩ := h1 q3 R2 h3
      exact ⟨R3, by rw [getRow_app q q3 t R hR]; exact h4, h5⟩
    · exact h3
  · intro q2 R2 hR2
    rcases getRow_setC q _ t t' h q2 R2 hR2 with ⟨q3, rfl⟩ | ⟨R3, h4, e1, e2, e3, e4⟩
    · rw [getRow_app q q3 t R hR] at hR2
      obtain ⟨R3, h4, h5⟩ := h2 q3 R2 hR2
      exact ⟨R3, by rw [getRow_app q q3 t' _ hR']; exact h4, h5⟩
    · exact ⟨R3, h4, e1.symm, e2.symm, e3.symm, e4.symm⟩
end
end Go.Lite
end

section
/-
  LITE 31: a store into an element, the operation.
-/
set_option linter.unusedVariables false
set_option linter.unusedSimpArgs false
namespace Go.Lite
open Go Go.RowKit

section
variable {P : Program} {hint : Nat → Hint} {glob : Nat → Option Comp} {E : Env} {n : Nat → Prop}

theorem storeEl_ok {t : TypeId} {r ver : Nat} {p : List Step} {i : Int} {fs : List Nat} {x : AV} {va vx : Value} {fl : Fl} {k : K} {xs : List k.D} {hole : Option (List Step)} {H2 : Heap} (hg : Good E n) (hH : E.H r = some (.arr fl k xs ver hole))
    (ha : RelV E (.el r ver p i fs) va) (hx : RelV E x vx) (h : storeEl (mkCx P hint glob) E.H t r p i fs x fl k xs ver hole = some H2) :
    ∃ E2, (Instr.storeAt t va vx).run P E.w = .ok () E2.w ∧ Step1 E n E2 n ∧ E2.H = H2 := by
  unfold storeEl at h
  split at h
  · rename_i f row hf hrow
    split at h
    · rename_i c hc
      split at h
      · rename_i hkh
        simp only [Bool.and_eq_true] at hkh
        split at h
        · rename_i d H' hab
          split at h
          · rename_i y hy
            split at h
            · rename_i xs' _ _ _ _ _ hxs' hr'
              injection h with h
              subst h
              have hr : H' r = some (.arr fl k xs ver hole) := by rw [hr', ← absorb_arr hab hr', hH]
              obtain ⟨E1, D, ts, s1, w1, hH1, _, n1, _, tk⟩ := absorb_ok hg (Hid.refl _) hx hab
              obtain ⟨hnD, hE1r⟩ := hH1.some hr
              have hrn : n r := hg.id_lt hH
              have ha1 : RelV E1 (.el r ver p i fs) va := RelV.ext s1.ext _ _ (by simpa [AV.ids] using hrn) ha
              obtain ⟨gr, hG, hrel⟩ := s1.good.roots r _ hE1r
              obtain ⟨Ax, cx', elsx, rfl, _⟩ := hrel.arr
              generalize ht1 : T.row k.sz Ax cx' elsx = t1 at hG
              obtain ⟨o, ho⟩ := comp_offs _ _ _ _ hc
              obtain ⟨hpk, _⟩ := getP_kind p k xs row hrow
              have hk := kindAt_some (eq_of_beq hkh.1)
              obtain ⟨info, dsc, hinfo, hud, hszk, hagg⟩ := hk.size
              obtain ⟨A, c0, els, q, R0, R, el0, el1, hq, hall, hR0, hR, e1, e2, e3, hset, hel0, hel1, hlen, hYs, hok1, htake, hdrop, hnone⟩ := (whole_of s1.good hE1r hG ha1 hpk ho hkh.2).out
              obtain ⟨h0, _, h2⟩ := ha1
              rw [hE1r, hG] at h2
              obtain ⟨hlt, ad, hRA, rfl⟩ := h2.2 (.inr rfl) q R o _ _ hq hR hpk ho
              obtain ⟨eR, hxR⟩ := nav_abs p fl f k xs A c0 els q R0 row hall hq hR0 hf hrow
              obtain ⟨xv, hxv, hax⟩ := hxR.get' i.toNat el0 hel0
              rw [List.getD_eq_getElem?_getD, hxv, Option.getD_some] at hc hy
              have htl := tk.abs.length _ _ _ _
              have hell := hax.length f _ _ _
              obtain ⟨_, habc, hle⟩ := AbsT.comp fs f row.k xv el0 c o c.k hax hc ho
              have hnew := AbsT.set fs f row.k xv y o c.k d el0 ts hax ho tk.abs hy
              have hels' : All2 (AbsT E1.S E1.w f row.k) (row.xs.set i.toNat y) (R0.els.set i.toNat (el0.take o ++ ts ++ el0.drop (o + c.k.sz))) := all2_set hxR hnew
              obtain ⟨A2, c2, els2, hs2, hall2, htop⟩ := path_set p fl f k xs xs' A c0 els q R0 row (row.xs.set i.toNat y) _ R0.A R0.c hall hq hR0 hf hrow hxs' hels'
              have hs1 : T.setC q (.row R.sz R.A R.c (R.els.set i.toNat (el1.take o ++ ts ++ el1.drop (o + ts.length)))) t1 = some (.row k.sz A2 c2 els2) := by
                rw [hset, hYs, htl, htake, hdrop, e1, e2, e3, eR]
                exact hs2
              have hnd1 := s1.good.nodup r _ hG
              have hdis : ∀ b ∈ blocksRow ts, b ∉ t1.blocks := by
                intro b hb hb'
                obtain ⟨r2, g2, hr2, _, hg2, hb2⟩ := tk.from_ b hb
                exact s1.good.apart r2 r g2 _ (fun h => hnD (h ▸ hr2)) hg2 hG b hb2 hb'
              obtain ⟨g, s, cells, e, hA, hh, hcap, hic, hgb, hok2, hnd2, hbl2⟩ := node_write hok1 hnd1 hR hel1 tk.ok tk.nodup hdis tk.val (by rw [htl, e1, eR]; exact hle) hs1
              rw [hA] at hRA
              injection hRA with hRA
              subst hRA
              have hvl : vx.cells.toList.length = c.k.sz := by rw [← tk.val, List.length_map, htl]
              have hmul : (i.toNat + 1) * R.sz ≤ R.c * R.sz := Nat.mul_le_mul_right _ hic
              rw [Nat.add_mul] at hmul
              have hRk : R.sz = row.k.sz := e1.trans eR
              have hrun := run_storeCells_at P g (s + i.toNat * R.sz + o) e vx.cells.toList 0 cells E1.w hh (by omega) tk.one
              rw [Nat.add_zero] at hrun
              have hstep := wr_step (xs' := xs') (ver' := verNext hole c.k ver) (N := blocksRow ts) (g := g) (w' := E1.w.setRow g (cells.toList.take (s + i.toNat * R.sz + o) ++ vx.cells.toList ++ cells.toList.drop (s + i.toNat * R.sz + o + vx.cells.toList.length)).toArray)
                s1.good hH1 hr hG (setRow_size _ _ _) rfl rfl rfl hgb (fun b hb => setRow_other _ _ _ _ hb) rfl hall2 hok2 hnd2 hbl2 (fun b hb => by
                  obtain ⟨r2, g2, hr2, _, hg2, hb2⟩ := tk.from_ b hb
                  exact ⟨r2, g2, hr2, hg2, hb2⟩) (by
                  refine ⟨fl, xs, ver, hole, t1, _, rfl, rfl, rfl, verNext_le _ _ _, fun R' hR' => ?_, rfl, fun hv => ?_⟩
                  · rcases setC_getRow q _ t1 _ hs1 [] R' hR' with ⟨q2, hq2, h3⟩ | h3
                    · obtain ⟨rfl, rfl⟩ : q = [] ∧ q2 = [] := by simpa using hq2.symm
                      simp only [T.getRow, Option.some.injEq] at h3
                      subst h3
                      exact ⟨R, hR, rfl, rfl, rfl, by simp⟩
                    · exact h3
                  · obtain ⟨hn, hfl⟩ := verNext_eq hv
                    have hts := absT_flat _ _ _ _ hfl tk.abs
                    subst hn
                    obtain ⟨rfl, rfl⟩ := hnone rfl
                    have hold := absT_flat _ _ _ _ hfl habc
                    obtain ⟨k1, k2⟩ := skel_leaves (sz := R.sz) (A := R.A) (c := R.c) (m := c.k.sz) hel1 hts hold htl (by omega)
                    rw [← htl] at k1 k2
                    obtain ⟨j1, j2⟩ := skel_path hs1 hR (by simp) k1 k2
                    exact ⟨j1, fun _ => ⟨rfl, j2⟩⟩)
              refine ⟨_, ?_, s1.trans hstep, rfl⟩
              have hsv : vx.cells.size = info.size := by rw [← Array.length_toList, hvl, hszk]
              simp only [Instr.storeAt, Instr.sureAddr, Sem.run_bind, Sem.run_pure, Result.andThen_ok, storeVar, run_sizeOf_of hinfo]
              rw [if_neg (by omega), add_mk, ← Nat.add_assoc, ← w1]
              exact hrun
            · cases h
          · cases h
        · cases h
      · cases h
    · cases h
  · cases h
end
end Go.Lite
end

section
/-
  LITE 32: what is appended.
-/
set_option linter.unusedVariables false
set_option linter.unusedSimpArgs false
namespace Go.Lite
open Go Go.RowKit

/-- The cells of a row, element by element. -/
theorem row_list {w : World} {sz : Nat} {α : Type} {R : α → List Value → Prop} {a : Addr} : ∀ (l : List α) (b : Nat), (∀ i x, l[i]? = some x → ∃ vs : List Value, vs.length = sz ∧ R x vs ∧ ∀ j, j < sz → w.cell? (a.add ((b + i) * sz + j)) = vs[j]?) →
    ∃ vss, All2 R l vss ∧ (∀ vs ∈ vss, vs.length = sz) ∧ ∀ j u, vss.flatten[j]? = some u → w.cell? (a.add (b * sz + j)) = some u
  | [], b, _ => ⟨[], trivial, by simp, by simp⟩
  | x :: l, b, h => by
    obtain ⟨vs, hl, hR, hv⟩ := h 0 x rfl
    obtain ⟨vss, h1, h2, h3⟩ := row_list l (b + 1) (fun i y hy => by
      obtain ⟨vs, hl, hR, hv⟩ := h (i + 1) y (by simpa using hy)
      exact ⟨vs, hl, hR, fun j hj => by rw [show b + 1 + i = b + (i + 1) by omega]; exact hv j hj⟩)
    refine ⟨vs :: vss, ⟨hR, h1⟩, fun u hu => by rcases List.mem_cons.1 hu with rfl | hu; exact hl; exact h2 u hu, fun j u hj => ?_⟩
    rw [List.flatten_cons] at hj
    by_cases hlt : j < sz
    · rw [List.getElem?_append_left (by omega)] at hj
      have := hv j hlt
      rw [Nat.add_zero] at this
      rw [this, hj]
    · rw [List.getElem?_append_right (by omega)] at hj
      have := h3 (j - vs.length) u hj
      rw [show (b + 1) * sz + (j - vs.length) = b * sz + j by rw [Nat.add_mul]; omega] at this
      exact this
theorem flatten_len {sz : Nat} : ∀ (vss : List (List Value)), (∀ vs ∈ vss, vs.length = sz) → vss.flatten.length = vss.length * sz
  | [], _ => by simp
  | v :: vss, h => by
    rw [List.flatten_cons, List.length_append, flatten_len vss (fun u hu => h u (by simp [hu])), h v (by simp), List.length_cons, Nat.add_mul]
    omega

section
variable {P : Program} {hint : Nat → Hint} {glob : Nat → Option Comp} {E : Env} {n : Nat → Prop}

/-- A row's cells as what an append yields. -/
theorem src_row {S : Nat → Prop} {k : K} {A : Option Addr} {c : Nat} {l : List k.D} {tx e' : TypeId} (hk : P.underlying tx = some (.slice e')) (hr : RowAt E.w S k.sz (RepC S E.w k) A l) :
    ∃ vss, All2 (RepC S E.w k) l vss ∧ Src P k.sz tx (.slice A l.length c) l.length vss.flatten E.w := by
  have nil : l = [] → ∃ vss, All2 (RepC S E.w k) l vss ∧ Src P k.sz tx (.slice A l.length c) l.length vss.flatten E.w := by
    rintro rfl
    refine ⟨[], trivial, ?_⟩
    cases A with
    | none => exact Src.ofNil E.w hk c
    | some a => exact Src.ofSlice E.w hk a 0 c [] (by simp) (by simp) (by simp)
  rcases hr with h | ⟨a, rfl, _, hc⟩
  · exact nil h
  · obtain ⟨vss, h1, h2, h3⟩ := row_list (R := RepC S E.w k) (a := a) l 0 (fun i x hx => by rw [Nat.zero_add]; exact hc i x hx)
    refine ⟨vss, h1, Src.ofSlice E.w hk a l.length c vss.flatten (by rw [flatten_len vss h2, h1.length]) (fun j u hj => by have := h3 j u hj; rwa [Nat.zero_mul, Nat.zero_add] at this) (all2_flat_one (RepC.one k) l vss h1)⟩

theorem bytes_src {tx : TypeId} (hk : P.underlying tx = some .string) (s : ByteArray) : Src P (K.int .u8).sz tx (.string s) (bytesOf s).length (((bytesOf s).map fun b => [Value.int .u8 b]).flatten) E.w := by
  have h := Src.ofString (P := P) E.w hk s
  have hb : bytesOf s = s.data.toList.map fun b => (b.toNat : Int) := by unfold bytesOf; rw [Go.ByteArray.toList_eq]
  have e1 : (bytesOf s).length = s.size := by rw [hb, List.length_map, Array.length_toList]; rfl
  have e2 : ((bytesOf s).map fun b => [Value.int .u8 b]).flatten = byteCells s := by
    rw [hb, byteCells]
    generalize s.data.toList = l
    induction l with
    | nil => rfl
    | cons a l ih => simp only [List.map_cons, List.flatten_cons, ih]; rfl
  rw [e1, e2]
  exact h
theorem bytes_rep {S : Nat → Prop} {w : World} : ∀ l : List Int, All2 (RepC S w (.int .u8)) l (l.map fun b => [Value.int .u8 b])
  | [] => trivial
  | _ :: l => ⟨rfl, bytes_rep l⟩

theorem absT_one {S : Nat → Prop} {w : World} (fl : Fl) : ∀ (k : K) (d : k.D) (ts : List T), AbsT S w fl k d ts → ∀ t ∈ ts, t.val.oneCell' = true := by
  induction fl with
  | no => rintro k d ts ⟨vs, rfl, hr⟩ t ht; obtain ⟨v, hv, rfl⟩ := List.mem_map.1 ht; exact hr.one k _ _ v hv
  | row f _ =>
    intro k d ts h t ht
    cases k with
    | slice k => obtain ⟨A, c, els, rfl, _⟩ := h; simp at ht; subst ht; rfl
    | _ => exact h.elim
  | pr a b iha ihb =>
    intro k d ts h t ht
    cases k with
    | pair ka kb =>
      obtain ⟨t1, t2, rfl, h1, h2⟩ := h
      rcases List.mem_append.1 ht with ht | ht
      · exact iha _ _ _ h1 t ht
      · exact ihb _ _ _ h2 t ht
    | _ => exact h.elim
theorem all2_eq_map {α β : Type} {f : α → β} : ∀ {l : List α} {m : List β}, All2 (fun a b => b = f a) l m → m = l.map f
  | [], [], _ => rfl
  | a :: l, b :: m, h => by rw [h.1, all2_eq_map h.2]; rfl
  | [], _ :: _, h => h.elim
  | _ :: _, [], h => h.elim
/-- The cells of a row of our own as what an append yields. -/
theorem src_trees {S : Nat → Prop} {fl : Fl} {k : K} {A A' : Option Addr} {c : Nat} {l : List k.D} {els : List (List T)} {tx e' : TypeId} (hk : P.underlying tx = some (.slice e')) (ha : All2 (AbsT S E.w fl k) l els) (ho : RowOk E.w k.sz A c els) (hA : c = 0 ∨ ∃ a, A = some a ∧ A' = some a) :
    Src P k.sz tx (.slice A' (l.length : Int).toNat c) l.length (els.map (·.map T.val)).flatten E.w := by
  have hl := ha.length
  rw [Int.toNat_natCast]
  by_cases h0 : l = []
  · subst h0
    have : els = [] := List.length_eq_zero_iff.1 (by simpa using hl.symm)
    subst this
    cases A' with
    | none => exact Src.ofNil E.w hk c
    | some a => exact Src.ofSlice E.w hk a 0 c [] (by simp) (by simp) (by simp)
  · have hpos : 0 < l.length := List.length_pos_iff.2 h0
    have hc0 : c ≠ 0 := by have := ho.2.1; omega
    rcases hA with h | ⟨a, rfl, rfl⟩
    · exact absurd h hc0
    · rcases ho.2.2 with h | ⟨g, s, cells, e, hA, hh, hcap, hcell⟩
      · exact absurd h hc0
      · injection hA with hA
        subst hA
        obtain ⟨vss, h1, h2, h3⟩ := row_list (w := E.w) (sz := k.sz) (R := fun (r : List T) (vs : List Value) => vs = r.map T.val) (a := ⟨g, s, none⟩) els 0 (fun i r hr => by
          refine ⟨r.map T.val, by rw [List.length_map]; exact ho.1 r (List.mem_of_getElem? hr), rfl, fun j hj => ?_⟩
          obtain ⟨d, hd, hdr⟩ := ha.get' i r hr
          have hjl : j < r.length := by rw [ho.1 r (List.mem_of_getElem? hr)]; exact hj
          rw [Nat.zero_add, add_mk]
          unfold World.cell?
          simp only [hh, Option.isSome_none, Bool.false_eq_true, if_false]
          rw [List.getElem?_map, List.getElem?_eq_getElem hjl, Option.map_some, ← Nat.add_assoc]
          exact hcell i r hr j _ (List.getElem?_eq_getElem hjl) (hdr.nogap fl _ _ _ _ (List.getElem_mem hjl)))
        have hv := all2_eq_map h1
        subst hv
        refine Src.ofSlice E.w hk _ l.length c _ (by rw [flatten_len _ h2, List.length_map, hl]) (fun j u hj => by have := h3 j u hj; rwa [Nat.zero_mul, Nat.zero_add] at this) (fun u hu => ?_)
        obtain ⟨cs, hcs, hu⟩ := List.mem_flatten.1 hu
        obtain ⟨ts, hts, rfl⟩ := List.mem_map.1 hcs
        obtain ⟨d, _, hd⟩ := all2_mem ha ts hts
        obtain ⟨t, ht, rfl⟩ := List.mem_map.1 hu
        exact absT_one _ _ _ _ hd t ht

theorem added_ok {H' : Heap} {fl : Fl} {k : K} {x : AV} {vx : Value} {new : List k.D} {tx : TypeId} (hg : Good E n) (hx : RelV E x vx) (htx : (∃ e', P.underlying tx = some (.slice e')) ∨ P.underlying tx = some .string)
    (hs : P.underlying tx = some .string → ∃ s, x = .data .str s) (hs2 : ∀ s, x = .data .str s → P.underlying tx = some .string) (h : added (mkCx P hint glob) E.H fl k x = some (new, H')) :
    ∃ E' D cellss tss, Step1 E n E' n ∧ E'.w = E.w ∧ Hid D H' E'.H ∧ (∀ r, D r → n r) ∧ TakenAll E' (fun _ => False) D fl k new cellss tss ∧ Src P k.sz tx vx new.length cellss.flatten E.w := by
  unfold added at h
  split at h
  · rename_i s
    split at h
    · rename_i l hl
      simp only [Option.some.injEq, Prod.mk.injEq] at h
      obtain ⟨rfl, rfl⟩ := h
      obtain ⟨e, rfl⟩ := cast_some hl
      injection e with e
      subst e
      have hx := relV_str.1 hx
      subst hx
      exact ⟨E, fun _ => False, (bytesOf s).map fun b => [Value.int .u8 b], ((bytesOf s).map fun b => [Value.int .u8 b]).map (·.map T.leaf), Step1.refl hg (fun _ h => h), rfl, Hid.refl _, fun _ h => h.elim, taken_leaf (k := .int .u8) (bytes_rep (bytesOf s)), bytes_src (hs2 s rfl) s⟩
    · cases h
  · rename_i hne
    have hsl : ∃ e', P.underlying tx = some (.slice e') := by
      rcases htx with h | h
      · exact h
      · obtain ⟨s, hs⟩ := hs h; exact absurd hs (hne s)
    obtain ⟨e', hk⟩ := hsl
    split at h
    · split at h
      · rename_i row hrow
        split at h
        · rename_i l hl
          simp only [Option.some.injEq, Prod.mk.injEq] at h
          obtain ⟨rfl, rfl⟩ := h
          obtain ⟨e, rfl⟩ := cast_some hl
          obtain ⟨rk, rxs⟩ := row
          simp only at e
          injection e with e
          subst e
          cases hf : K.flatRows rk with
          | true =>
            obtain ⟨A, c, rfl, hc, hr⟩ := content_ok (S' := fun _ => True) hg (SubH.refl _) (fun _ _ => trivial) (fun _ _ _ _ _ _ _ _ _ _ _ => trivial) hx hrow
            obtain ⟨vss, h1, h2⟩ := src_row hk hr
            have h1' : All2 (RepC E.S E.w rk) rxs vss := h1.imp (fun _ _ _ h => RepC.flat rk hf _ _ h)
            exact ⟨E, fun _ => False, vss, _, Step1.refl hg (fun _ h => h), rfl, Hid.refl _, fun _ h => h.elim, taken_leaf h1', h2⟩
          | false =>
            obtain ⟨E1, s1, hH1, w1, hlent, _⟩ := freeze_sub x.ids E.H E hg (Hid.refl _)
            obtain ⟨A, c, rfl, hc, hr⟩ := content_ok (S' := E1.S) hg (SubH.refl _) (fun b hb => (s1.ext.stay b hb).1) hlent hx hrow
            obtain ⟨vss, h1, h2⟩ := src_row hk hr
            rw [← w1] at h1
            exact ⟨E1, fun _ => False, vss, _, s1, w1, hH1, fun _ h => h.elim, taken_leaf h1, h2⟩
        · cases h
      · cases h
    · split at h
      · rename_i r ver off len
        split at h
        · rename_i f' k' xs ver' hr
          split at h
          · rename_i hc
            simp only [Bool.and_eq_true, beq_iff_eq] at hc
            obtain ⟨⟨rfl, rfl⟩, rfl⟩ := hc
            split at h
            · rename_i d' hcast
              simp only [Option.some.injEq, Prod.mk.injEq] at h
              obtain ⟨rfl, rfl⟩ := h
              obtain ⟨e, rfl⟩ := cast_some hcast
              injection e with e
              subst e
              obtain ⟨gr, hG, hrel⟩ := hg.roots r _ hr
              cases gr with
              | arr t =>
                obtain ⟨A, c, els, rfl, hok, ha⟩ := hrel
                obtain ⟨_, _, _, h2⟩ := hx
                rw [hr, hG] at h2
                obtain ⟨hle, A', c', rfl, hc', hA⟩ := h2.2 (.inl rfl) [] _ rfl rfl
                simp only [Int.toNat_zero, Nat.sub_zero, Nat.zero_mul, Addr.add_zero'] at hc' hA
                subst hc'
                obtain ⟨n1, _⟩ := row_nodup (sz := k'.sz) (hg.nodup r _ hG)
                refine ⟨E, fun q => q = r, els.map (·.map T.val), els, Step1.refl hg (fun _ h => h), rfl, fun q => ⟨fun hq => ?_, fun hq => upd_other _ _ hq⟩, fun q hq => hq ▸ hg.id_lt hr, ⟨ha, rfl, hok.2, n1, fun b hb => ⟨r, _, rfl, fun h => h, hG, by simp [GRoot.blocks, T.blocks, hb]⟩, fun cs hcs c hc => ?_⟩, ?_⟩
                · subst hq; exact upd_same _ _ _
                · obtain ⟨ts, hts, rfl⟩ := List.mem_map.1 hcs
                  obtain ⟨d, _, hd⟩ := all2_mem ha ts hts
                  obtain ⟨t, ht, rfl⟩ := List.mem_map.1 hc
                  exact absT_one _ _ _ _ hd t ht
                · exact src_trees hk ha hok.1 hA
              | _ => exact hrel.elim
            · cases h
          · cases h
        · cases h
      · simp only [Option.some.injEq, Prod.mk.injEq] at h
        obtain ⟨rfl, rfl⟩ := h
        obtain rfl : vx = .slice none 0 0 := hx
        exact ⟨E, fun _ => False, [], [], Step1.refl hg (fun _ h => h), rfl, Hid.refl _, fun _ h => h.elim, ⟨trivial, rfl, trivial, by simp [blocksEls], by simp [blocksEls], by simp⟩, Src.ofNil E.w hk 0⟩
      · cases h
end
end Go.Lite
end

section
/-
  LITE 33: a row taken out.
-/
set_option linter.unusedVariables false
set_option linter.unusedSimpArgs false
namespace Go.Lite
open Go Go.RowKit

theorem nodup_less {α : Type} {a b b' c : List α} {N : α → Prop} (h : (a ++ (b ++ c)).Nodup) (hb : b'.Nodup) (hs : ∀ x ∈ b', x ∈ b ∧ ¬ N x) (hN : ∀ x, N x → x ∈ b) : (a ++ (b' ++ c)).Nodup ∧ ∀ x ∈ a ++ (b' ++ c), x ∈ a ++ (b ++ c) ∧ ¬ N x := by
  refine ⟨nodup_mid (N := fun _ => False) h hb (fun x hx => .inl (hs x hx).1) (fun _ _ h => h), fun x hx => ?_⟩
  rw [List.nodup_append, List.nodup_append] at h
  obtain ⟨_, ⟨_, _, h4⟩, h5⟩ := h
  rcases List.mem_append.1 hx with h | h
  · exact ⟨by simp [h], fun hn => h5 x h x (by simp [hN x hn]) rfl⟩
  · rcases List.mem_append.1 h with h | h
    · exact ⟨by simp [(hs x h).1], (hs x h).2⟩
    · exact ⟨by simp [h], fun hn => h4 x (hN x hn) x h rfl⟩

theorem blocksRow_less {N : Nat → Prop} {u0 u1 : T} (hu : u1.blocks.Nodup) (hs : ∀ b ∈ u1.blocks, b ∈ u0.blocks ∧ ¬ N b) (hN : ∀ b, N b → b ∈ u0.blocks) : ∀ (r : List T) (j : Nat), r[j]? = some u0 → (blocksRow r).Nodup →
    (blocksRow (r.set j u1)).Nodup ∧ ∀ b ∈ blocksRow (r.set j u1), b ∈ blocksRow r ∧ ¬ N b
  | [], _, h, _ => by simp at h
  | x :: r, 0, h, hn => by
    simp at h
    subst h
    simp only [List.set_cons_zero, blocksRow] at hn ⊢
    exact nodup_less (a := []) hn hu hs hN
  | x :: r, j + 1, h, hn => by
    have h' : r[j]? = some u0 := by simpa using h
    simp only [List.set_cons_succ, blocksRow] at hn ⊢
    have hn2 := List.nodup_append.1 hn
    obtain ⟨i1, i2⟩ := blocksRow_less hu hs hN r j h' hn2.2.1
    have := nodup_less (a := x.blocks) (b := blocksRow r) (b' := blocksRow (r.set j u1)) (c := []) (N := N) (by simpa using hn) i1 i2 (fun b hb => mem_blocksRow h' b (hN b hb))
    simpa using this
theorem blocksEls_less {N : Nat → Prop} {r r' : List T} (hu : (blocksRow r').Nodup) (hs : ∀ b ∈ blocksRow r', b ∈ blocksRow r ∧ ¬ N b) (hN : ∀ b, N b → b ∈ blocksRow r) : ∀ (l : List (List T)) (i : Nat), l[i]? = some r → (blocksEls l).Nodup →
    (blocksEls (l.set i r')).Nodup ∧ ∀ b ∈ blocksEls (l.set i r'), b ∈ blocksEls l ∧ ¬ N b
  | [], _, h, _ => by simp at h
  | x :: l, 0, h, hn => by
    simp at h
    subst h
    simp only [List.set_cons_zero, blocksEls] at hn ⊢
    exact nodup_less (a := []) hn hu hs hN
  | x :: l, i + 1, h, hn => by
    have h' : l[i]? = some r := by simpa using h
    simp only [List.set_cons_succ, blocksEls] at hn ⊢
    have hn2 := List.nodup_append.1 hn
    obtain ⟨i1, i2⟩ := blocksEls_less hu hs hN l i h' hn2.2.1
    have := nodup_less (a := blocksRow x) (b := blocksEls l) (b' := blocksEls (l.set i r')) (c := []) (N := N) (by simpa using hn) i1 i2 (fun b hb => mem_blocksEls h' b (hN b hb))
    simpa using this

/-- A row taken out of a tree: what is left. -/
theorem gap_setC {w : World} : ∀ (q : List (Nat × Nat)) (t t' : T) (R : RowT), T.setC q .gap t = some t' → T.getRow q t = some R → t.ok w → t.blocks.Nodup →
    t'.ok w ∧ t'.blocks.Nodup ∧ ∀ b ∈ t'.blocks, b ∈ t.blocks ∧ b ∉ (T.row R.sz R.A R.c R.els).blocks
  | [], t, t', R, h, hR, ho, hn => by
    simp only [T.setC, Option.some.injEq] at h
    subst h
    exact ⟨trivial, by simp [T.blocks], by simp [T.blocks]⟩
  | (i, j) :: q, t, t', R, h, hR, ho, hn => by
    obtain ⟨sz, A, c, els, rfl⟩ := setC_isRow h
    obtain ⟨r, u0, u1, hr, hu0, hu1, rfl⟩ := setC_some h
    have hat : (T.row sz A c els).at? i j = some u0 := by simp only [T.at?, hr, hu0]
    simp only [T.getRow, hat] at hR
    obtain ⟨n1, n2⟩ := row_nodup hn
    have hrn := blocksEls_nodup els i r n1 hr
    have hun := blocksRow_nodup (r := r) (j := j) (u := u0) r j u0 hrn hu0
    have hok0 : u0.ok w := okRow_get (okEls_get ho.2 hr) hu0
    obtain ⟨i1, i2, i3⟩ := gap_setC q u0 u1 R hu1 hR hok0 hun
    have hin : ∀ b ∈ (T.row R.sz R.A R.c R.els).blocks, b ∈ u0.blocks := getRow_blocks q u0 R hR
    obtain ⟨j1, j2⟩ := blocksRow_less (N := fun b => b ∈ (T.row R.sz R.A R.c R.els).blocks) i2 i3 hin r j hu0 hrn
    obtain ⟨k1, k2⟩ := blocksEls_less (N := fun b => b ∈ (T.row R.sz R.A R.c R.els).blocks) j1 j2 (fun b hb => mem_blocksRow hu0 b (hin b hb)) els i hr n1
    have hset : setEl els i j u1 = els.set i (r.set j u1) := by simp only [setEl, hr]
    have hinE : ∀ b ∈ (T.row R.sz R.A R.c R.els).blocks, b ∈ blocksEls els := fun b hb => mem_blocksEls hr b (mem_blocksRow hu0 b (hin b hb))
    refine ⟨⟨?_, by rw [hset]; exact okEls_set els i r j u0 u1 ho.2 hr hu0 n1 (fun _ _ _ => rfl) i1⟩, ?_, fun b hb => ?_⟩
    · obtain ⟨o1, o2, o3⟩ := ho.1
      refine ⟨fun r' hr' => ?_, by rw [setEl_length]; exact o2, ?_⟩
      · rw [hset] at hr'
        rcases List.mem_or_eq_of_mem_set hr' with h | h
        · exact o1 r' h
        · rw [h, List.length_set]; exact o1 r (List.mem_of_getElem? hr)
      · rcases o3 with o3 | ⟨g, s, cells, e, hA, hh, hcap, hcell⟩
        · exact .inl o3
        · refine .inr ⟨g, s, cells, e, hA, hh, hcap, fun i2 r2 hr2 j2 t2 ht2 hg2 => ?_⟩
          have hat2 : (T.row sz A c (setEl els i j u1)).at? i2 j2 = some t2 := by simp only [T.at?, hr2, ht2]
          rw [setEl_get hr hu0] at hat2
          by_cases he : i2 = i ∧ j2 = j
          · rw [if_pos he] at hat2
            injection hat2 with hat2
            subst hat2
            obtain ⟨rfl, rfl⟩ := he
            cases q with
            | nil =>
              simp only [T.setC, Option.some.injEq] at hu1
              exact absurd hu1.symm hg2
            | cons ab q =>
              obtain ⟨sz0, A0, c0, els0, rfl⟩ := setC_isRow hu1
              obtain ⟨r0, v0, v1, hr0, hv0, hv1, rfl⟩ := setC_some hu1
              have := hcell _ r hr _ _ hu0 (by simp)
              simpa only [T.val, setEl_length] using this
          · rw [if_neg he] at hat2
            obtain ⟨r3, hr3, ht3⟩ := at_some hat2
            exact hcell i2 r3 hr3 j2 t2 ht3 hg2
    · simp only [T.blocks, hset]
      simp only [T.blocks] at hn
      rw [List.nodup_append]
      exact ⟨(List.nodup_append.1 hn).1, k1, fun a ha b hb hab => n2 a ha (hab ▸ (k2 b hb).1)⟩
    · simp only [T.blocks, hset] at hb ⊢
      rcases List.mem_append.1 hb with hb | hb
      · exact ⟨by simp [hb], fun h => n2 b hb (hinE b h)⟩
      · exact ⟨by simp [(k2 b hb).1], (k2 b hb).2⟩
end Go.Lite
end

section
/-
  LITE 34: a row that goes on as a new root.
-/
set_option linter.unusedVariables false
set_option linter.unusedSimpArgs false
namespace Go.Lite
open Go Go.RowKit

def Env.mv (E : Env) (H : Heap) (r m : Nat) (Xr : Option Root) (Xg : Option GRoot) (root : Root) (tn : T) (w : World) : Env :=
  let G : Nat → Option GRoot := upd r Xg (upd m (some (.arr tn)) fun q => (H q).bind fun _ => E.G q)
  { S := fun b => b < w.heap.size ∧ ¬ Own G b ∧ ¬ E.F b, F := E.F, w := w, H := upd r Xr (upd m (some root) H), G := G }

/-- The base of an append goes (or is left with a hole), a new root comes. -/
theorem mv_step {E : Env} {m r : Nat} {n n' : Nat → Prop} {D : Nat → Prop} {H : Heap} {fl fl0 : Fl} {k k0 : K} {ds : List k.D} {xs0 : List k0.D} {ver0 : Nat} {t1 tn : T} {w' : World} {Xr : Option Root} {Xg : Option GRoot} {A2 : Option Addr} {c2 : Nat} {els2 : List (List T)} {W : Nat → Prop}
    (hg : Good E n) (hH : Hid D H E.H) (hr : H r = some (.arr fl0 k0 xs0 ver0 none)) (hG : E.G r = some (.arr t1)) (hm : ¬ n m) (hmn : (∀ q, n q → n' q) ∧ n' m)
    (hsz : E.w.heap.size ≤ w'.heap.size) (hos : w'.os = E.w.os) (htp : w'.tape = E.w.tape) (hou : w'.output = E.w.output) (hW : ∀ b, W b → b ∈ t1.blocks) (hkeep : ∀ b, b < E.w.heap.size → ¬ W b → w'.heap[b]? = E.w.heap[b]?)
    (htn : tn = .row k.sz A2 c2 els2) (hall : All2 (AbsT E.S E.w fl k) ds els2) (hok : tn.ok w') (hnd : tn.blocks.Nodup)
    (hbl : ∀ b ∈ tn.blocks, b < w'.heap.size ∧ (E.w.heap.size ≤ b ∨ b ∈ t1.blocks ∨ ∃ d gr, D d ∧ E.G d = some gr ∧ b ∈ gr.blocks))
    (hX : (Xr = none ∧ Xg = none) ∨ ∃ p t' ver', Xr = some (.arr fl0 k0 xs0 ver' (some p)) ∧ Xg = some (.arr t') ∧ (∀ E', Ext n E E' → E'.w = w' → RelRoot E' (.arr fl0 k0 xs0 ver' (some p)) (.arr t')) ∧ t'.blocks.Nodup ∧ (∀ b ∈ t'.blocks, b ∈ t1.blocks ∧ b ∉ tn.blocks) ∧
      ExtR (some (.arr fl0 k0 xs0 ver0 none)) Xr (some (.arr t1)) Xg) :
    Step1 E n (E.mv H r m Xr Xg (.arr fl k ds 0 none) tn w') n' := by
  obtain ⟨hnD, hEr⟩ := hH.some hr
  have hrn := hg.id_lt hEr
  have hrm : r ≠ m := fun h => hm (h ▸ hrn)
  have hother : ∀ d, d ≠ r → d ≠ m → D d → (E.mv H r m Xr Xg (.arr fl k ds 0 none) tn w').H d = none ∧ (E.mv H r m Xr Xg (.arr fl k ds 0 none) tn w').G d = none := by
    intro d h1 h2 hd
    simp only [Env.mv]
    rw [upd_other _ _ h1, upd_other _ _ h2, upd_other _ _ h1, upd_other _ _ h2, (hH d).1 hd]
    exact ⟨rfl, rfl⟩
  have hHr : (E.mv H r m Xr Xg (.arr fl k ds 0 none) tn w').H r = Xr := by simp only [Env.mv, upd_same]
  have hGr : (E.mv H r m Xr Xg (.arr fl k ds 0 none) tn w').G r = Xg := by simp only [Env.mv, upd_same]
  have hHm : (E.mv H r m Xr Xg (.arr fl k ds 0 none) tn w').H m = some (.arr fl k ds 0 none) := by simp only [Env.mv]; rw [upd_other _ _ (Ne.symm hrm), upd_same]
  have hGm : (E.mv H r m Xr Xg (.arr fl k ds 0 none) tn w').G m = some (.arr tn) := by simp only [Env.mv]; rw [upd_other _ _ (Ne.symm hrm), upd_same]
  have hXb : ∀ gr, Xg = some gr → ∀ b ∈ gr.blocks, b ∈ t1.blocks ∧ b ∉ tn.blocks := by
    intro gr hgr b hb
    rcases hX with ⟨_, h⟩ | ⟨p, t', ver', _, h, _, _, h2, _⟩
    · rw [h] at hgr; cases hgr
    · rw [h] at hgr; injection hgr with hgr; subst hgr; exact h2 b hb
  have hc : Chg (fun d => D d ∨ d = r ∨ d = m) n E (E.mv H r m Xr Xg (.arr fl k ds 0 none) tn w') := by
    refine ⟨fun d hd => ?_, fun d hd => ?_, hsz, hos, htp, hou, fun b hb hn => hkeep b hb (fun h => hn r _ (.inr (.inl rfl)) hG (hW b h)), fun b => Iff.rfl, fun d gr hd hgr b hb => ?_, fun d hd hlt => ?_, rfl⟩
    · have h1 : d ≠ r := fun h => hd (.inr (.inl h))
      have h2 : d ≠ m := fun h => hd (.inr (.inr h))
      have h3 : ¬ D d := fun h => hd (.inl h)
      simp only [Env.mv]
      rw [upd_other _ _ h1, upd_other _ _ h2]
      exact (hH d).2 h3
    · have h1 : d ≠ r := fun h => hd (.inr (.inl h))
      have h2 : d ≠ m := fun h => hd (.inr (.inr h))
      have h3 : ¬ D d := fun h => hd (.inl h)
      simp only [Env.mv]
      rw [upd_other _ _ h1, upd_other _ _ h2, (hH d).2 h3]
      cases h : E.H d with
      | none => rw [hg.none d h]; rfl
      | some root => rfl
    · by_cases hdr : d = r
      · subst hdr
        rw [hGr] at hgr
        have := (hXb gr hgr b hb).1
        exact ⟨Nat.lt_of_lt_of_le (hg.lt b ⟨d, _, hG, this⟩) hsz, .inr ⟨d, _, .inr (.inl rfl), hG, this⟩⟩
      · by_cases hdm : d = m
        · subst hdm
          rw [hGm] at hgr
          injection hgr with hgr
          subst hgr
          obtain ⟨h1, h2⟩ := hbl b hb
          refine ⟨h1, ?_⟩
          rcases h2 with h | h | ⟨d2, g2, hd2, hg2, hb2⟩
          · exact .inl h
          · exact .inr ⟨r, _, .inr (.inl rfl), hG, h⟩
          · exact .inr ⟨d2, g2, .inl hd2, hg2, hb2⟩
        · have hDd : D d := by rcases hd with h | h | h; exact h; exact absurd h hdr; exact absurd h hdm
          rw [(hother d hdr hdm hDd).2] at hgr
          cases hgr
    · by_cases hdr : d = r
      · subst hdr
        rw [hEr, hG, hHr, hGr]
        rcases hX with ⟨h1, h2⟩ | ⟨p, t', ver', h1, h2, _, _, _, h3⟩
        · rw [h1]; trivial
        · exact h3
      · have hdm : d ≠ m := fun h => hm (h ▸ hlt)
        have hDd : D d := by rcases hd with h | h | h; exact h; exact absurd h hdr; exact absurd h hdm
        rw [(hother d hdr hdm hDd).1]
        trivial
  have hx := hc.toExt hg
  have cases3 : ∀ d, (D d ∨ d = r ∨ d = m) → d = r ∨ d = m ∨ (d ≠ r ∧ d ≠ m ∧ D d) := by
    intro d hd
    by_cases hdr : d = r
    · exact .inl hdr
    · by_cases hdm : d = m
      · exact .inr (.inl hdm)
      · exact .inr (.inr ⟨hdr, hdm, by rcases hd with h | h | h; exact h; exact absurd h hdr; exact absurd h hdm⟩)
  refine hc.step hg hmn.1 (hc.good hg hmn.1 ?_ ?_ ?_ ?_ ?_)
  · intro d root hd h
    rcases cases3 d hd with rfl | rfl | ⟨h1, h2, h3⟩
    · rw [hHr] at h
      rcases hX with ⟨h1, _⟩ | ⟨p, t', ver', h1, h2, h3, _⟩
      · rw [h1] at h; cases h
      · rw [h1] at h
        injection h with h
        subst h
        exact ⟨.arr t', by rw [hGr, h2], h3 _ hx rfl⟩
    · rw [hHm] at h
      injection h with h
      subst h
      exact ⟨.arr tn, hGm, A2, c2, els2, htn, hok, hall.imp (fun _ _ _ h => h.mono hx.stay fl k _ _)⟩
    · rw [(hother d h1 h2 h3).1] at h; cases h
  · intro d hd h
    rcases cases3 d hd with rfl | rfl | ⟨h1, h2, h3⟩
    · rw [hHr] at h
      rw [hGr]
      rcases hX with ⟨_, h2⟩ | ⟨p, t', ver', h1, _⟩
      · exact h2
      · rw [h1] at h; cases h
    · rw [hHm] at h; cases h
    · exact (hother d h1 h2 h3).2
  · intro d d' g1 g2 hd hd' hne h1 h2 b hb hb'
    rcases cases3 d hd with rfl | rfl | ⟨a1, a2, a3⟩
    · rcases cases3 d' hd' with rfl | rfl | ⟨b1, b2, b3⟩
      · exact hne rfl
      · rw [hGr] at h1
        rw [hGm] at h2
        injection h2 with h2
        subst h2
        exact (hXb g1 h1 b hb).2 hb'
      · rw [(hother d' b1 b2 b3).2] at h2; cases h2
    · rcases cases3 d' hd' with rfl | rfl | ⟨b1, b2, b3⟩
      · rw [hGr] at h2
        rw [hGm] at h1
        injection h1 with h1
        subst h1
        exact (hXb g2 h2 b hb').2 hb
      · exact hne rfl
      · rw [(hother d' b1 b2 b3).2] at h2; cases h2
    · rw [(hother d a1 a2 a3).2] at h1; cases h1
  · intro d gd hd h
    rcases cases3 d hd with rfl | rfl | ⟨h1, h2, h3⟩
    · rw [hGr] at h
      rcases hX with ⟨_, h2⟩ | ⟨p, t', ver', _, h2, _, h3, _⟩
      · rw [h2] at h; cases h
      · rw [h2] at h; injection h with h; subst h; exact h3
    · rw [hGm] at h; injection h with h; subst h; exact hnd
    · rw [(hother d h1 h2 h3).2] at h; cases h
  · intro d root hd h
    rcases cases3 d hd with rfl | rfl | ⟨h1, h2, h3⟩
    · rw [hHr] at h
      rcases hX with ⟨h1, _⟩ | ⟨p, t', ver', h1, _⟩
      · rw [h1] at h; cases h
      · rw [h1] at h; injection h with h; subst h; exact ⟨hmn.1 _ hrn, by simp [Root.ids]⟩
    · rw [hHm] at h; injection h with h; subst h; exact ⟨hmn.2, by simp [Root.ids]⟩
    · rw [(hother d h1 h2 h3).1] at h; cases h
end Go.Lite
end

section
/-
  LITE 35: append.
-/
set_option linter.unusedVariables false
set_option linter.unusedSimpArgs false
namespace Go.Lite
open Go Go.RowKit

/-- Elements put behind others, in place. -/
theorem rowOk_append {w : World} {sz c g s off len : Nat} {els tnew : List (List T)} {cells : Array Value} {e : TypeId} {vs : List Value} (h : RowOk w sz (some ⟨g, s, none⟩) c els) (hh : w.heap[g]? = some (.cells cells e (0, 0)))
    (hcap : s + c * sz ≤ cells.size) (hle : off + len ≤ els.length) (hroom : len + tnew.length ≤ c - off) (hts : ∀ r ∈ tnew, r.length = sz) (hvs : vs = (tnew.map (·.map T.val)).flatten) (hc : off < c) :
    RowOk (w.setRow g (cells.toList.take (s + off * sz + len * sz) ++ vs ++ cells.toList.drop (s + off * sz + len * sz + vs.length)).toArray) sz (some ⟨g, s + off * sz, none⟩) (c - off) ((els.drop off).take len ++ tnew) := by
  have e0 : c - off + off = c := Nat.sub_add_cancel (Nat.le_of_lt hc)
  obtain ⟨h1, h2, h3⟩ := h
  have hol : ((els.drop off).take len).length = len := len_cut els off len hle
  have hvl : vs.length = tnew.length * sz := by
    rw [hvs, flatten_len _ (fun u hu => by obtain ⟨r, hr, rfl⟩ := List.mem_map.1 hu; rw [List.length_map]; exact hts r hr), List.length_map]
  have hcl : cells.toList.length = cells.size := Array.length_toList
  have hm1 : (len + tnew.length) * sz ≤ (c - off) * sz := Nat.mul_le_mul_right _ hroom
  have hm2 : (c - off) * sz + off * sz = c * sz := by rw [← Nat.add_mul, e0]
  rw [Nat.add_mul] at hm1
  refine ⟨fun r hr => ?_, by rw [List.length_append, hol]; exact hroom, .inr ⟨g, s + off * sz, _, e, rfl, setRow_heap w g cells _ e (0, 0) hh, ?_, fun i r hr j t ht hg => ?_⟩⟩
  · rcases List.mem_append.1 hr with h | h
    · exact h1 r (List.mem_of_mem_drop (List.mem_of_mem_take h))
    · exact hts r h
  · simp only [List.size_toArray, List.length_append, List.length_take, List.length_drop]
    omega
  · rw [List.getElem?_toArray]
    by_cases hi : i < len
    · rw [List.getElem?_append_left (by omega), List.getElem?_take, if_pos hi, List.getElem?_drop] at hr
      have hj : j < sz := by rw [← h1 r (List.mem_of_getElem? hr)]; exact (List.getElem?_eq_some_iff.1 ht).1
      have hm3 : (i + 1) * sz ≤ len * sz := Nat.mul_le_mul_right _ hi
      rw [Nat.add_mul] at hm3
      rw [List.append_assoc, List.getElem?_append_left (by rw [List.length_take]; omega), List.getElem?_take, if_pos (by omega)]
      rcases h3 with h3 | ⟨g', s', cells', e', hA, hh', _, hcell⟩
      · omega
      · injection hA with hA
        injection hA with hA hB
        subst hA hB
        rw [hh] at hh'
        injection hh' with hh'
        injection hh' with hh'
        subst hh'
        have := hcell (off + i) r hr j t ht hg
        rw [Array.getElem?_toList, ← this]
        congr 1
        rw [Nat.add_mul]
        omega
    · rw [List.getElem?_append_right (by omega), hol] at hr
      have hj : j < sz := by rw [← hts r (List.mem_of_getElem? hr)]; exact (List.getElem?_eq_some_iff.1 ht).1
      have hil : i - len < tnew.length := (List.getElem?_eq_some_iff.1 hr).1
      have hm3 : (i - len + 1) * sz ≤ tnew.length * sz := Nat.mul_le_mul_right _ hil
      have hm4 : (i - len) * sz + len * sz = i * sz := by rw [← Nat.add_mul, Nat.sub_add_cancel (Nat.le_of_not_lt hi)]
      rw [Nat.add_mul] at hm3
      have hget : vs[(i - len) * sz + j]? = some t.val := by
        rw [hvs]
        have key : ∀ (l : List (List T)) (a : Nat), (∀ r ∈ l, r.length = sz) → l[a]? = some r → ((l.map (·.map T.val)).flatten)[a * sz + j]? = some t.val := by
          intro l
          induction l with
          | nil => intro a _ h; simp at h
          | cons x l ih =>
            intro a hl ha
            rw [List.map_cons, List.flatten_cons]
            have hx := hl x (by simp)
            cases a with
            | zero =>
              simp at ha
              subst ha
              rw [Nat.zero_mul, Nat.zero_add, List.getElem?_append_left (by rw [List.length_map]; omega), List.getElem?_map, ht]
              rfl
            | succ a =>
              rw [List.getElem?_append_right (by rw [List.length_map, Nat.add_mul]; omega), List.length_map, hx]
              rw [show (a + 1) * sz + j - sz = a * sz + j by rw [Nat.add_mul]; omega]
              exact ih a (fun r hr => hl r (by simp [hr])) (by simpa using ha)
        exact key tnew (i - len) hts hr
      rw [List.append_assoc, List.getElem?_append_right (by rw [List.length_take]; omega), List.length_take, List.getElem?_append_left (by omega)]
      rw [← hget]
      congr 1
      omega

theorem drew_step {E : Env} {n : Nat → Prop} (hg : Good E n) : Step1 E n ⟨E.S, E.w.drew, E.H, E.G, E.F⟩ n := by
  have hc : Chg (fun _ => False) n E ⟨E.S, E.w.drew, E.H, E.G, E.F⟩ :=
    ⟨fun _ _ => rfl, fun _ _ => rfl, Nat.le_refl _, rfl, rfl, rfl, fun _ _ _ => rfl, hg.S, fun d gr h => h.elim, fun d h => h.elim, rfl⟩
  exact hc.step hg (fun _ h => h) (hc.good hg (fun _ h => h) (fun d root h => h.elim) (fun d h => h.elim) (fun d d' g g' h => h.elim) (fun d g h => h.elim) (fun d root h => h.elim))

theorem zeroCells_size (z : Array Value) (m : Nat) : (Builtin.zeroCells z m).size = m * z.size := by simp [Builtin.zeroCells]

section
variable {P : Program} {E : Env} {n : Nat → Prop}
theorem grown_le {w : World} {need old : Nat} {e : TypeId} (h : need < 2 ^ 63) : need ≤ grownCap w need old e := by
  unfold grownCap Question.cut
  simp only
  omega

/-- What a base that is no root of ours holds: nothing, or a literal. -/
theorem firstCells_nil {sz : Nat} {w : World} (sCap : Nat) : (Builtin.firstCells sz 0 (.slice none 0 sCap)).run P w = .ok (([] : List Value).toArray) w := rfl

/-- A new row for an append to what is no root of ours. -/
theorem grow_new {D : Nat → Prop} {H1 : Heap} {fl : Fl} {k : K} {ds new : List k.D} {cellss : List (List Value)} {tss : List (List T)} {t tx ty e : TypeId} {info : TypeInfo} {z : Value} {base : Option Addr} {sLen sCap m : Nat} {n' : Nat → Prop} {olds news : List Value} {vx : Value} (hg : Good E n) (hH : Hid D H1 E.H) (hD : ∀ r, D r → n r)
    (ht : TakenAll E (fun _ => False) D fl k ds cellss tss) (hm : ¬ n m) (hmn : (∀ q, n q → n' q) ∧ n' m) (hu : P.underlying t = some (.slice e)) (hi : P.info? e = some info) (hz : info.zero = some z) (hsz : info.size = k.sz) (hzs : z.cells.size = k.sz)
    (hold : (Builtin.firstCells info.size sLen (.slice base sLen sCap)).run P E.w.drew = .ok olds.toArray E.w.drew) (hs : Src P info.size tx vx new.length news E.w) (hcells : olds ++ news = cellss.flatten) (hlen : ds.length = sLen + new.length)
    (hgt : sCap < sLen + new.length) (hlim : ds.length * info.bytes ≤ 1073741824) (hlim2 : ds.length ≤ 1073741824) :
    ∃ v E', (Builtin.append_ #[t, tx] ty #[.slice base sLen sCap, vx]).run P E.w = .ok v E'.w ∧ Step1 E n E' n' ∧ E'.H = upd m (some (.arr fl k ds 0 none)) H1 ∧ RelV E' (.sl m 0 [] 0 (ds.length : Nat)) v := by
  have hfit := growslice_fits (need := sLen + new.length) (old := sCap) (bytes := info.bytes) hgt (by rw [← hlen]; omega)
  have hrun := run_append_grow_src (P := P) E.w t tx ty e info z hu hi hz base sLen sCap olds hold vx new.length news hs hgt (by omega) hfit
  have hdr := drew_step hg
  have hcap := grown_le (w := E.w) (need := sLen + new.length) (old := sCap) (e := e) (by omega)
  obtain ⟨l1, l2, l3⟩ := taken_len ht
  have hcl : ∀ cs ∈ cellss, cs.length = k.sz := by
    intro cs hcs
    rw [← ht.val] at hcs
    obtain ⟨ts, hts, rfl⟩ := List.mem_map.1 hcs
    rw [List.length_map]
    exact l3 ts hts
  have hfl := flatten_len cellss hcl
  have ht' : TakenAll ⟨E.S, E.w.drew, E.H, E.G, E.F⟩ (fun _ => False) D fl k ds cellss tss :=
    ⟨ht.abs.imp (fun _ _ _ h => h.mono hdr.ext.stay fl k _ _), ht.val, okEls_mono (w := E.w) (w' := E.w.drew) tss (fun _ _ => rfl) ht.ok, ht.nodup, ht.from_, ht.one⟩
  obtain ⟨p1, p2⟩ := row_post (c := grownCap E.w (sLen + new.length) sCap e) (cells := (olds ++ news).toArray ++ Builtin.zeroCells z.cells (grownCap E.w (sLen + new.length) sCap e - (sLen + new.length))) (e := e) hdr.good hH hD ht' hm hmn (by omega) (by
      rw [Array.size_append, zeroCells_size, List.size_toArray, hcells, hfl, l2, hzs, ← Nat.add_mul]
      exact Nat.mul_le_mul_right _ (by omega)) (by
      intro ix cs hcs j hj
      have hil : ix < cellss.length := (List.getElem?_eq_some_iff.1 hcs).1
      have hm3 : (ix + 1) * k.sz ≤ cellss.length * k.sz := Nat.mul_le_mul_right _ hil
      rw [Nat.add_mul] at hm3
      rw [Array.getElem?_append_left (by rw [List.size_toArray, hcells, hfl]; omega), List.getElem?_toArray, hcells]
      have key : ∀ (l : List (List Value)) (a : Nat), (∀ r ∈ l, r.length = k.sz) → l[a]? = some cs → (l.flatten)[a * k.sz + j]? = cs[j]? := by
        intro l
        induction l with
        | nil => intro a _ h; simp at h
        | cons x l ih =>
          intro a hl ha
          rw [List.flatten_cons]
          have hx := hl x (by simp)
          cases a with
          | zero =>
            simp at ha
            subst ha
            rw [Nat.zero_mul, Nat.zero_add, List.getElem?_append_left (by omega)]
          | succ a =>
            rw [List.getElem?_append_right (by rw [Nat.add_mul]; omega), hx]
            rw [show (a + 1) * k.sz + j - k.sz = a * k.sz + j by rw [Nat.add_mul]; omega]
            exact ih a (fun r hr => hl r (by simp [hr])) (by simpa using ha)
      exact key cellss ix hcl hcs)
  refine ⟨_, _, hrun, hdr.trans p1, rfl, ?_⟩
  have e1 : E.w.drew.heap.size = E.w.heap.size := rfl
  rw [hlen] at p2 ⊢
  exact p2
end
end Go.Lite
end

section
/-
  LITE 36: append, the operation.
-/
set_option linter.unusedVariables false
set_option linter.unusedSimpArgs false
namespace Go.Lite
open Go Go.RowKit

section
variable {P : Program} {hint : Nat → Hint} {glob : Nat → Option Comp} {E : Env} {n : Nat → Prop}

theorem added_arr {cx : Cx} {H H' : Heap} {fl' : Fl} {k' : K} {v : AV} {d : List k'.D} (h : added cx H fl' k' v = some (d, H')) {r : Nat} {fl : Fl} {k : K} {xs : List k.D} {ver : Nat} {hole : Option (List Step)} (hr : H' r = some (.arr fl k xs ver hole)) : H r = some (.arr fl k xs ver hole) := by
  unfold added at h
  split at h
  · split at h
    · simp only [Option.some.injEq, Prod.mk.injEq] at h
      obtain ⟨_, rfl⟩ := h
      exact hr
    · cases h
  · split at h
    · split at h
      · split at h
        · simp only [Option.some.injEq, Prod.mk.injEq] at h
          obtain ⟨_, rfl⟩ := h
          cases hk : k'.flatRows with
          | true => rw [hk] at hr; exact hr
          | false => rw [hk] at hr; exact freeze_arr _ _ _ _ _ _ _ _ hr
        · cases h
      · cases h
    · split at h
      · split at h
        · split at h
          · split at h
            · simp only [Option.some.injEq, Prod.mk.injEq] at h
              obtain ⟨_, rfl⟩ := h
              exact upd_none_some hr
            · cases h
          · cases h
        · cases h
      · simp only [Option.some.injEq, Prod.mk.injEq] at h
        obtain ⟨_, rfl⟩ := h
        exact hr
      · cases h

/-- The base of an append, a row of our own: its rows and its header. -/
theorem base_rows {r ver : Nat} {p : List Step} {off len : Int} {fl : Fl} {k : K} {xs : List k.D} {ver' : Nat} {v : Value} {V : View} (hg : Good E n) (hH : E.H r = some (.arr fl k xs ver' none)) (hv : SlRel E r ver p off len v) (hV : view E.H r ver p = some V) :
    ∃ A c els q R, E.G r = some (.arr (.row k.sz A c els)) ∧ (T.row k.sz A c els).ok E.w ∧ All2 (AbsT E.S E.w fl k) xs els ∧ tpath k p = some q ∧ T.getRow q (.row k.sz A c els) = some R ∧ (p = [] → q = []) ∧ R.sz = V.row.k.sz ∧
      All2 (AbsT E.S E.w V.fl V.row.k) V.row.xs R.els ∧ Hdr R.sz R.A R.c R.els.length off len v := by
  obtain ⟨h0, h1, _, h2⟩ := hv
  rcases (view_is hg hV).out with ⟨fl2, k2, xs2, ver2, A0, c0, els0, hH2, hG, hp, hok, ha, hf, hrow, _⟩ | ⟨k2, xs2, A, c, hH2, _⟩
  · rw [hH] at hH2
    injection hH2 with hH2
    injection hH2 with e1 e2 e3 e4
    subst e1 e2
    have e3 := eq_of_heq e3
    subst e3 e4
    rw [hH, hG] at h2
    obtain ⟨hpo, hcl⟩ := h2
    obtain ⟨q, R, hq, hR⟩ := hpo.2 hp rfl
    obtain ⟨f1, f2, f3, f4, f5, _⟩ := nav p fl V.fl k xs A0 c0 els0 q R V.row ha hok.1 hok.2 hq hR hf hrow
    refine ⟨A0, c0, els0, q, R, hG, hok, ha, hq, hR, ?_, f1, f4, hcl hp q R hq hR⟩
    rintro rfl
    simp only [tpath, Option.some.injEq] at hq
    exact hq.symm
  · rw [hH] at hH2
    cases hH2

/-- There is room: the cells go behind, in place. -/
theorem room_run {t tx ty e : TypeId} {info : TypeInfo} (hu : P.underlying t = some (.slice e)) (hi : P.info? e = some info) {g o sLen sCap nn : Nat} {vx : Value} {news : List Value} {cells : Array Value} {et : TypeId} {w : World} (hs : Src P info.size tx vx nn news w) (hroom : sLen + nn ≤ sCap)
    (hh : w.heap[g]? = some (.cells cells et (0, 0))) (hfit : o + sLen * info.size + news.length ≤ cells.size) :
    (Builtin.append_ #[t, tx] ty #[.slice (some ⟨g, o, none⟩) sLen sCap, vx]).run P w = .ok (.slice (some ⟨g, o, none⟩) (sLen + nn) sCap) (w.setRow g (cells.toList.take (o + sLen * info.size) ++ news ++ cells.toList.drop (o + sLen * info.size + news.length)).toArray) := by
  have hst := run_storeCells_at P g (o + sLen * info.size) et news 0 cells w hh (by omega) hs.one
  simp only [Nat.add_zero] at hst
  rcases hs.kind with ⟨e', hk⟩ | hk <;> simp [Builtin.append_, run_underlying hu, run_underlying hk, sizeOf, typeInfo, hi, hs.len, hroom, hs.cells, Addr.add_lit, hst]
end
end Go.Lite
end

section
/-
  LITE 37: append to a row of our own.
-/
set_option linter.unusedVariables false
set_option linter.unusedSimpArgs false
namespace Go.Lite
open Go Go.RowKit

theorem all2_drop_take {α β : Type} {R : α → β → Prop} {l : List α} {m : List β} (o n : Nat) (h : All2 R l m) : All2 R ((l.drop o).take n) ((m.drop o).take n) := (h.drop o).take n
theorem okEls_sub {w : World} : ∀ (l : List (List T)) (o n : Nat), okEls w l → okEls w ((l.drop o).take n)
  | [], o, n, _ => by simp [okEls]
  | x :: l, 0, 0, _ => by simp [okEls]
  | x :: l, 0, n + 1, h => ⟨h.1, by simpa using okEls_sub l 0 n h.2⟩
  | x :: l, o + 1, n, h => by simpa using okEls_sub l o n h.2
theorem okEls_append {w : World} : ∀ (l m : List (List T)), okEls w l → okEls w m → okEls w (l ++ m)
  | [], _, _, h => h
  | x :: l, m, h, h' => ⟨h.1, okEls_append l m h.2 h'⟩
theorem blocksEls_append : ∀ (l m : List (List T)), blocksEls (l ++ m) = blocksEls l ++ blocksEls m
  | [], _ => rfl
  | x :: l, m => by simp [blocksEls, blocksEls_append l m]
theorem blocksEls_sub (l : List (List T)) (o n : Nat) : (blocksEls ((l.drop o).take n)).Sublist (blocksEls l) := by
  have e : l = l.take o ++ ((l.drop o).take n ++ (l.drop o).drop n) := by rw [List.take_append_drop, List.take_append_drop]
  conv => rhs; rw [e]
  rw [blocksEls_append, blocksEls_append]
  exact List.Sublist.trans (List.sublist_append_left _ _) (List.sublist_append_right _ _)

/-- The trees of a row that goes on: what it held, and what came. -/
theorem on_trees {E : Env} {D : Nat → Prop} {fl : Fl} {k : K} {old new : List k.D} {cellss : List (List Value)} {tss olds : List (List T)} {t1 : T} (ho : All2 (AbsT E.S E.w fl k) old olds) (ht : TakenAll E (fun _ => False) D fl k new cellss tss)
    (hno : (blocksEls olds).Nodup) (hin : ∀ b ∈ blocksEls olds, b ∈ t1.blocks) (hdis : ∀ b ∈ blocksEls tss, b ∉ t1.blocks) :
    All2 (AbsT E.S E.w fl k) (old ++ new) (olds ++ tss) ∧ (blocksEls (olds ++ tss)).Nodup ∧ ∀ b ∈ blocksEls (olds ++ tss), b ∈ blocksEls olds ∨ b ∈ blocksEls tss := by
  refine ⟨All2.append ho ht.abs, ?_, fun b hb => by rw [blocksEls_append] at hb; exact List.mem_append.1 hb⟩
  rw [blocksEls_append, List.nodup_append]
  exact ⟨hno, ht.nodup, fun a ha b hb hab => hdis b hb (hab ▸ hin a ha)⟩
end Go.Lite
end

section
/-
  LITE 38: append to a row of our own, the two ways.
-/
set_option linter.unusedVariables false
set_option linter.unusedSimpArgs false
namespace Go.Lite
open Go Go.RowKit

theorem sl_new {E : Env} {m : Nat} {fl : Fl} {k : K} {ds : List k.D} {A : Option Addr} {c : Nat} {els : List (List T)} {w : World} (hH : E.H m = some (.arr fl k ds 0 none)) (hG : E.G m = some (.arr (.row k.sz A c els))) (hok : RowOk w k.sz A c els) (hl : els.length = ds.length) :
    RelV E (.sl m 0 [] 0 (ds.length : Nat)) (.slice A ds.length c) := by
  obtain ⟨h1, h2⟩ := rowOk_some hok
  refine ⟨by omega, by omega, ⟨A, c, by simp, by simpa [hl] using h1, h2⟩, ?_⟩
  rw [hH, hG]
  refine ⟨⟨fun h => absurd rfl h, fun _ _ => ⟨[], _, rfl, rfl⟩⟩, fun _ q R hq hR => ?_⟩
  simp only [tpath, Option.some.injEq] at hq
  subst hq
  simp only [T.getRow, Option.some.injEq] at hR
  subst hR
  have := hdr_self hok
  rw [hl] at this
  simpa [hl] using this
end Go.Lite
end

section
/-
  LITE 39: append to a row of our own, in the world.
-/
set_option linter.unusedVariables false
set_option linter.unusedSimpArgs false
namespace Go.Lite
open Go Go.RowKit

theorem flat_get {sz : Nat} : ∀ (l : List (List T)) (a : Nat) (r : List T) (j : Nat) (t : T), (∀ r ∈ l, r.length = sz) → l[a]? = some r → r[j]? = some t → ((l.map (·.map T.val)).flatten)[a * sz + j]? = some t.val
  | [], a, r, j, t, _, h, _ => by simp at h
  | x :: l, 0, r, j, t, hl, h, ht => by
    simp at h
    subst h
    have hj : j < x.length := (List.getElem?_eq_some_iff.1 ht).1
    rw [List.map_cons, List.flatten_cons, Nat.zero_mul, Nat.zero_add, List.getElem?_append_left (by rw [List.length_map]; exact hj), List.getElem?_map, ht]
    rfl
  | x :: l, a + 1, r, j, t, hl, h, ht => by
    have hx := hl x (by simp)
    rw [List.map_cons, List.flatten_cons, List.getElem?_append_right (by rw [List.length_map, Nat.add_mul]; omega), List.length_map, hx]
    rw [show (a + 1) * sz + j - sz = a * sz + j by rw [Nat.add_mul]; omega]
    exact flat_get l a r j t (fun r hr => hl r (by simp [hr])) (by simpa using h) ht

theorem rowOk_sub {w : World} {sz c off len c' : Nat} {A A' : Option Addr} {els : List (List T)} (h : RowOk w sz A c els) (hle : off + len ≤ els.length) (hc : c' = c - off) (hA : c' = 0 ∨ ∃ a, A = some a ∧ A' = some (a.add (off * sz))) : RowOk w sz A' c' ((els.drop off).take len) := by
  obtain ⟨h1, h2, h3⟩ := h
  subst hc
  refine ⟨fun r hr => h1 r (List.mem_of_mem_drop (List.mem_of_mem_take hr)), by rw [len_cut els off len hle]; omega, ?_⟩
  by_cases h0 : c - off = 0
  · exact .inl h0
  · rcases hA with hA | ⟨a, rfl, rfl⟩
    · exact absurd hA h0
    · rcases h3 with h3 | ⟨g, s, cells, e, hA, hh, hcap, hcell⟩
      · omega
      · injection hA with hA
        subst hA
        refine .inr ⟨g, s + off * sz, cells, e, by rw [add_mk], hh, ?_, fun i r hr j t ht hg => ?_⟩
        · have : (c - off) * sz + off * sz = c * sz := by rw [← Nat.add_mul, Nat.sub_add_cancel (by omega)]
          omega
        · have hi : i < len := by
            have := (List.getElem?_eq_some_iff.1 hr).1
            rw [List.length_take] at this
            omega
          rw [List.getElem?_take, if_pos hi, List.getElem?_drop] at hr
          have := hcell (off + i) r hr j t ht hg
          rw [← this]
          congr 1
          rw [Nat.add_mul]
          omega

theorem drewAlloc_new (w : World) (o : Obj) : (w.drew.alloc o).heap[w.heap.size]? = some o := by
  have h : (w.drew.alloc o).heap = w.heap.push o := rfl
  rw [h, Array.getElem?_push_size]
theorem drewAlloc_old (w : World) (o : Obj) {b : Nat} (h : b < w.heap.size) : (w.drew.alloc o).heap[b]? = w.heap[b]? := by
  have e : (w.drew.alloc o).heap = w.heap.push o := rfl
  rw [e, Array.getElem?_push_lt h, Array.getElem?_eq_getElem h]
theorem drewAlloc_lt (w : World) (o : Obj) : w.heap.size < (w.drew.alloc o).heap.size := by
  have e : (w.drew.alloc o).heap = w.heap.push o := rfl
  rw [e, Array.size_push]
  exact Nat.lt_succ_self _

section
variable {P : Program} {E : Env} {n : Nat → Prop}

structure AppendRes (P : Program) (E : Env) (R : RowT) (sz : Nat) (trees : List (List T)) (v : Value) (w' : World) (A2 : Option Addr) (c2 : Nat) (W : Nat → Prop) : Prop where
  val : v = .slice A2 trees.length c2
  row : RowOk w' sz A2 c2 trees
  els : okEls w' trees
  size : E.w.heap.size ≤ w'.heap.size
  os : w'.os = E.w.os
  tape : w'.tape = E.w.tape
  output : w'.output = E.w.output
  wr : ∀ b, W b → b ∈ headBlock R.A R.c
  keep : ∀ b, b < E.w.heap.size → ¬ W b → w'.heap[b]? = E.w.heap[b]?
  nodup : (headBlock A2 c2 ++ blocksEls trees).Nodup
  head : ∀ b ∈ headBlock A2 c2, b < w'.heap.size ∧ (E.w.heap.size ≤ b ∨ b ∈ headBlock R.A R.c)

theorem append_core {D : Nat → Prop} {fl : Fl} {k : K} {old new : List k.D} {cellss : List (List Value)} {tss : List (List T)} {t tx ty e : TypeId} {info : TypeInfo} {z : Value} {vx : Value} {R : RowT} {off len c' : Nat} {A' : Option Addr}
    (ht : TakenAll E (fun _ => False) D fl k new cellss tss) (hu : P.underlying t = some (.slice e)) (hi : P.info? e = some info) (hz : info.zero = some z) (hsz : info.size = k.sz) (hzs : z.cells.size = k.sz)
    (hs : Src P info.size tx vx new.length cellss.flatten E.w) (hR : RowOk E.w k.sz R.A R.c R.els) (hRe : okEls E.w R.els) (hRn : (headBlock R.A R.c ++ blocksEls R.els).Nodup) (hRlt : ∀ b ∈ headBlock R.A R.c ++ blocksEls R.els, b < E.w.heap.size)
    (hle : off + len ≤ R.els.length) (hc : c' = R.c - off) (hA : c' = 0 ∨ ∃ a, R.A = some a ∧ A' = some (a.add (off * k.sz))) (ho : All2 (AbsT E.S E.w fl k) old ((R.els.drop off).take len))
    (hdis : ∀ b ∈ blocksEls tss, b ∉ headBlock R.A R.c ++ blocksEls R.els) (hlt : ∀ b ∈ blocksEls tss, b < E.w.heap.size)
    (hlim : (len + new.length) * info.bytes ≤ 1073741824) (hlim2 : len + new.length ≤ 1073741824) :
    ∃ v w' A2 c2 W, (Builtin.append_ #[t, tx] ty #[.slice A' len c', vx]).run P E.w = .ok v w' ∧ AppendRes P E R k.sz ((R.els.drop off).take len ++ tss) v w' A2 c2 W := by
  have hsub := rowOk_sub hR hle hc hA
  have hol : ((R.els.drop off).take len).length = len := len_cut _ _ _ hle
  obtain ⟨l1, l2, l3⟩ := taken_len ht
  have hoe := okEls_sub R.els off len hRe
  have hRn' := List.nodup_append.1 hRn
  have hsb := blocksEls_sub R.els off len
  have hon : (blocksEls ((R.els.drop off).take len)).Nodup := hsb.nodup hRn'.2.1
  have hrow : (blocksEls ((R.els.drop off).take len ++ tss)).Nodup := by
    rw [blocksEls_append, List.nodup_append]
    exact ⟨hon, ht.nodup, fun a ha b hb hab => hdis b hb (hab ▸ List.mem_append.2 (.inr (hsb.subset ha)))⟩
  have hall : ∀ b ∈ blocksEls ((R.els.drop off).take len ++ tss), b ∈ blocksEls R.els ∨ b ∈ blocksEls tss := fun b hb => by
    rw [blocksEls_append] at hb
    exact (List.mem_append.1 hb).imp (fun h => hsb.subset h) id
  have hnh : ∀ b ∈ blocksEls ((R.els.drop off).take len ++ tss), b ∉ headBlock R.A R.c := fun b hb hh => by
    rcases hall b hb with h | h
    · exact hRn'.2.2 b hh b h rfl
    · exact hdis b h (List.mem_append.2 (.inl hh))
  have hlt' : ∀ b ∈ blocksEls ((R.els.drop off).take len ++ tss), b < E.w.heap.size := fun b hb => by
    rcases hall b hb with h | h
    · exact hRlt b (List.mem_append.2 (.inr h))
    · exact hlt b h
  by_cases hroom : len + new.length ≤ c'
  · by_cases h0 : c' = 0
    · have hl0 : len = 0 := by omega
      have hn0 : new = [] := List.length_eq_zero_iff.1 (by omega)
      subst hn0 hl0
      have ht0 : tss = [] := List.length_eq_zero_iff.1 (by simpa using l1)
      have hc0 : cellss = [] := List.length_eq_zero_iff.1 (by simpa using l2)
      subst ht0 hc0
      have hrun := run_append_nothing (P := P) E.w t tx ty e info hu hi A' 0 c' (by omega) vx hs
      refine ⟨_, _, A', c', fun _ => False, hrun, ⟨by simp, by simpa using hsub, by simp [okEls], Nat.le_refl _, rfl, rfl, rfl, fun _ h => h.elim, fun _ _ _ => rfl, ?_, ?_⟩⟩
      · simp [blocksEls, h0, headBlock]
      · subst h0
        intro b hb
        cases A' <;> simp [headBlock] at hb
    · rcases hA with hA | ⟨a, hRA, rfl⟩
      · exact absurd hA h0
      · have hRc : R.c ≠ 0 := by omega
        rcases hR.2.2 with h3 | ⟨g, s, cells, et, hA2, hh, hcap, hcell⟩
        · exact absurd h3 hRc
        · rw [hRA] at hA2
          injection hA2 with hA2
          subst hA2
          have hhb : headBlock R.A R.c = [g] := headBlock_pos hRc hRA
          have hm2 : (R.c - off) * k.sz + off * k.sz = R.c * k.sz := by rw [← Nat.add_mul, Nat.sub_add_cancel (by omega)]
          have hm3 : (len + new.length) * k.sz ≤ (R.c - off) * k.sz := Nat.mul_le_mul_right _ (by omega)
          rw [Nat.add_mul] at hm3
          have hnl : cellss.flatten.length = new.length * k.sz := by rw [hs.newsLen, hsz]
          have hrun := room_run (ty := ty) (P := P) hu hi (o := s + off * k.sz) hs hroom hh (by rw [hnl, hsz]; omega)
          have hvs : cellss.flatten = (tss.map (·.map T.val)).flatten := by rw [ht.val]
          have hRok : RowOk E.w k.sz (some ⟨g, s, none⟩) R.c R.els := hRA ▸ hR
          have hnew := rowOk_append hRok hh hcap hle (by rw [l1]; omega) l3 hvs (by omega)
          rw [add_mk]
          rw [hsz] at hrun
          refine ⟨_, _, some ⟨g, s + off * k.sz, none⟩, c', fun b => b = g, hrun, ⟨by rw [List.length_append, hol, l1], by subst hc; exact hnew, ?_, ?_, rfl, rfl, rfl, fun b hb => by rw [hhb, hb]; simp, fun b _ hb => ?_, ?_, ?_⟩⟩
          · refine okEls_mono _ (fun b hb => ?_) (okEls_append _ _ hoe ht.ok)
            have := hnh b hb
            rw [hhb] at this
            exact setRow_other _ _ _ _ (by simpa using this)
          · rw [setRow_size]; exact Nat.le_refl _
          · exact setRow_other _ _ _ _ hb
          · rw [headBlock_pos h0 rfl]
            refine List.nodup_append.2 ⟨by simp, hrow, fun a ha b hb hab => ?_⟩
            have := hnh b hb
            rw [hhb] at this
            exact this (by simpa [← hab] using ha)
          · rw [headBlock_pos h0 rfl, hhb]
            intro b hb
            simp at hb
            subst hb
            have : b < E.w.heap.size := hRlt b (by rw [hhb]; simp)
            rw [setRow_size]
            exact ⟨this, .inr (by simp)⟩
  · have hgt : c' < len + new.length := by omega
    have hfit := growslice_fits (need := len + new.length) (old := c') (bytes := info.bytes) hgt (by omega)
    have hsrc : Src P info.size t (.slice A' ((old.length : Nat) : Int).toNat c') old.length (((R.els.drop off).take len).map (·.map T.val)).flatten E.w := by
      rw [hsz]
      refine src_trees (A := A') hu ho hsub ?_
      rcases hsub.2.2 with h | ⟨g, s, _, _, h, _⟩
      · exact .inl h
      · exact .inr ⟨_, h, h⟩
    have hol2 : old.length = len := by rw [ho.length, hol]
    rw [hol2, Int.toNat_natCast] at hsrc
    have hrun := run_append_grow_src (P := P) E.w t tx ty e info z hu hi hz A' len c' _ hsrc.cellsD vx new.length cellss.flatten hs hgt (by omega) hfit
    have hcap := grown_le (w := E.w) (need := len + new.length) (old := c') (e := e) (by omega)
    have hcells : (((R.els.drop off).take len).map (·.map T.val)).flatten ++ cellss.flatten = (((R.els.drop off).take len ++ tss).map (·.map T.val)).flatten := by rw [List.map_append, List.flatten_append, ht.val]
    rw [hcells] at hrun
    have htl : ∀ r ∈ (R.els.drop off).take len ++ tss, r.length = k.sz := fun r hr => by
      rcases List.mem_append.1 hr with h | h
      · exact hsub.1 r h
      · exact l3 r h
    have hfl : ((((R.els.drop off).take len ++ tss).map (·.map T.val)).flatten).length = (len + new.length) * k.sz := by
      rw [flatten_len _ (fun u hu => by obtain ⟨r, hr, rfl⟩ := List.mem_map.1 hu; rw [List.length_map]; exact htl r hr), List.length_map, List.length_append, hol, l1]
    have hcp : grownCap E.w (len + new.length) c' e ≠ 0 := by omega
    refine ⟨_, _, some ⟨E.w.heap.size, 0, none⟩, grownCap E.w (len + new.length) c' e, fun _ => False, hrun, ⟨by rw [List.length_append, hol, l1], ⟨htl, by rw [List.length_append, hol, l1]; exact hcap, .inr ⟨E.w.heap.size, 0, _, e, rfl, drewAlloc_new _ _, ?_, fun i r hr j t ht hg => ?_⟩⟩, ?_, ?_, rfl, rfl, rfl, fun _ h => h.elim, fun b hb _ => drewAlloc_old _ _ hb, ?_, ?_⟩⟩
    · rw [Array.size_append, zeroCells_size, List.size_toArray, hfl, hzs, Nat.zero_add, ← Nat.add_mul]
      exact Nat.mul_le_mul_right _ (by omega)
    · have hj : j < k.sz := by rw [← htl r (List.mem_of_getElem? hr)]; exact (List.getElem?_eq_some_iff.1 ht).1
      have hil : i < len + new.length := by have := (List.getElem?_eq_some_iff.1 hr).1; rwa [List.length_append, hol, l1] at this
      have hm3 : (i + 1) * k.sz ≤ (len + new.length) * k.sz := Nat.mul_le_mul_right _ hil
      rw [Nat.add_mul] at hm3
      rw [Nat.zero_add, Array.getElem?_append_left (by rw [List.size_toArray, hfl]; omega), List.getElem?_toArray]
      exact flat_get _ i r j t htl hr ht
    · exact okEls_mono _ (fun b hb => drewAlloc_old _ _ (hlt' b hb)) (okEls_append _ _ hoe ht.ok)
    · exact Nat.le_of_lt (drewAlloc_lt _ _)
    · rw [headBlock_pos hcp rfl]
      refine List.nodup_append.2 ⟨by simp, hrow, fun a ha b hb hab => ?_⟩
      have := hlt' b hb
      simp at ha
      omega
    · rw [headBlock_pos hcp rfl]
      intro b hb
      simp at hb
      subst hb
      exact ⟨drewAlloc_lt _ _, .inl (Nat.le_refl _)⟩
end
end Go.Lite
end

section
/-
  LITE 40: append.
-/
set_option linter.unusedVariables false
set_option linter.unusedSimpArgs false
namespace Go.Lite
open Go Go.RowKit

theorem setC_exists : ∀ (q : List (Nat × Nat)) (t u : T) (R : RowT), T.getRow q t = some R → ∃ t', T.setC q u t = some t'
  | [], _, u, _, _ => ⟨u, rfl⟩
  | (i, j) :: q, t, u, R, h => by
    simp only [T.getRow] at h
    split at h
    · rename_i v hv
      obtain ⟨v', hv'⟩ := setC_exists q v u R h
      cases t with
      | row sz A c els => exact ⟨_, by simp only [T.setC, hv, hv']; rfl⟩
      | leaf _ => simp [T.at?] at hv
      | gap => simp [T.at?] at hv
    · cases h

def leftG (p : List Step) (q : List (Nat × Nat)) (t : T) : Option GRoot := match p with
  | [] => none
  | _ => (T.setC q .gap t).map GRoot.arr

section
variable {P : Program} {hint : Nat → Hint} {glob : Nat → Option Comp} {E : Env} {n : Nat → Prop}

theorem appPut_some {i : Ty} {k : K} {m : Nat} {fl : Fl} {old new : List k.D} {H : Heap} {r : AV × Heap} (h : appPut i k m fl old new H = some r) :
    (old.length + new.length) * i.bytes ≤ 1073741824 ∧ old.length + new.length ≤ 1073741824 ∧ r = (.sl m 0 [] 0 ((old ++ new).length : Nat), upd m (some (.arr fl k (old ++ new) 0 none)) H) := by
  obtain ⟨h1, h2⟩ := chk_some h
  simp only [Bool.and_eq_true] at h1
  injection h2 with h2
  exact ⟨of_decide_eq_true h1.1, of_decide_eq_true h1.2, h2.symm⟩

theorem appendSl_ok {t tx ty e : TypeId} {info : TypeInfo} {i : Ty} {z : Value} {r ver : Nat} {p : List Step} {off len : Int} {x : AV} {vb vx : Value} {fl0 : Fl} {k0 : K} {xs0 : List k0.D} {ver0 : Nat} {V : View} {new : List V.row.k.D} {H1 H2 : Heap} {fl1 : Fl} {k1 : K} {xs1 : List k1.D} {ver1 : Nat} {hole1 : Option (List Step)} {m : Nat} {n' : Nat → Prop} {a : AV}
    (hg : Good E n) (hu : P.underlying t = some (.slice e)) (hi : P.info? e = some info) (hz : info.zero = some z) (hsz : info.size = V.row.k.sz) (hzs : z.cells.size = V.row.k.sz) (hby : i.bytes = info.bytes)
    (hr : E.H r = some (.arr fl0 k0 xs0 ver0 none)) (hV : view E.H r ver p = some V) (hb : RelV E (.sl r ver p off len) vb) (hx : RelV E x vx) (htx : (∃ e', P.underlying tx = some (.slice e')) ∨ P.underlying tx = some .string)
    (hs : P.underlying tx = some .string → ∃ s, x = .data .str s) (hs2 : ∀ s, x = .data .str s → P.underlying tx = some .string) (hm : ¬ n m) (hmn : (∀ q, n q → n' q) ∧ n' m)
    (hadd : added (mkCx P hint glob) E.H V.fl V.row.k x = some (new, H1)) (hr1 : H1 r = some (.arr fl1 k1 xs1 ver1 hole1)) (hput : appPut i V.row.k m V.fl ((V.row.xs.drop off.toNat).take len.toNat) new H1 = some (a, H2)) :
    ∃ v E', (Builtin.append_ #[t, tx] ty #[vb, vx]).run P E.w = .ok v E'.w ∧ Post E n ⟨a, upd r (left fl0 k0 xs0 ver0 p) H2⟩ n' v E' := by
  have hrn := hg.id_lt hr
  have e1 := added_arr hadd hr1
  rw [hr] at e1
  injection e1 with e1
  injection e1 with a1 a2 a3 a4 a5
  subst a1 a2
  have a3 := eq_of_heq a3
  subst a3 a4 a5
  obtain ⟨b1, b2, b3⟩ := appPut_some hput
  rw [hby] at b1
  injection b3 with b3 b4
  subst b3 b4
  obtain ⟨E1, D, cellss, tss, s1, w1, hH1, hD, ht, hsrc⟩ := added_ok hg hx htx hs hs2 hadd
  have hg1 := s1.good
  obtain ⟨hnD, hr1'⟩ := hH1.some hr1
  have hb1 : RelV E1 (.sl r ver p off len) vb := hb.ext s1.ext _ _ (by simpa [AV.ids] using hrn)
  have hV1 : view E1.H r ver p = some V := by rw [view_congr (H' := E.H) (by rw [hr1', hr])]; exact hV
  obtain ⟨A, c, els, q, R, hG, hok, ha, hq, hR, hpq, hRs, hRa, hle, A', c', hv, hc', hA⟩ := base_rows hg1 hr1' hb1 hV1
  have hoff := hb1.1
  have hlen := hb1.2.1
  have hRok := getRow_ok q _ R hok hR
  have hnd := hg1.nodup r _ hG
  have hRn := getRow_nodup q _ R hnd hR
  have hRb := getRow_blocks q _ R hR
  subst hv
  have hwb : E1.w = E.w := w1
  rw [← hwb] at hsrc ⊢
  have hdis : ∀ b ∈ blocksEls tss, b ∉ (T.row k0.sz A c els).blocks := fun b hb hb' => by
    obtain ⟨r', gr, hDr, _, hGr, hbr⟩ := ht.from_ b hb
    exact hg1.apart r' r gr _ (fun h => hnD (h ▸ hDr)) hGr hG b hbr hb'
  have hsp : R.sz = V.row.k.sz := hRs
  rw [hsp] at hA hRok
  rw [hsp] at hRb
  simp only [T.blocks] at hRn hRb
  have hle' : off.toNat + len.toNat ≤ R.els.length := by omega
  have hol : ((V.row.xs.drop off.toNat).take len.toNat).length = len.toNat := len_cut _ _ _ (by rw [hRa.length]; exact hle')
  rw [hol] at b1 b2
  obtain ⟨v, w', A2, c2, W, hrun, ar⟩ := append_core (ty := ty) (R := R) (k := V.row.k) (E := E1) (A' := A') (c' := c') (old := (V.row.xs.drop off.toNat).take len.toNat) ht hu hi hz hsz hzs (hsz ▸ hsrc) hRok.1 hRok.2 hRn
    (fun b hb => hg1.lt b ⟨r, _, hG, hRb b hb⟩) hle' hc' hA (all2_drop_take _ _ hRa) (fun b hb hb' => hdis b hb (hRb b hb')) (blocksEls_lt hg1 ht) b1 b2
  have hall : All2 (AbsT E1.S E1.w V.fl V.row.k) ((V.row.xs.drop off.toNat).take len.toNat ++ new) ((R.els.drop off.toNat).take len.toNat ++ tss) := All2.append (all2_drop_take _ _ hRa) ht.abs
  have hWt : ∀ b, W b → b ∈ (T.row k0.sz A c els).blocks := fun b hb => hRb b (List.mem_append.2 (.inl (ar.wr b hb)))
  have hbl : ∀ b ∈ (T.row V.row.k.sz A2 c2 ((R.els.drop off.toNat).take len.toNat ++ tss)).blocks, b < w'.heap.size ∧ (E1.w.heap.size ≤ b ∨ b ∈ (T.row k0.sz A c els).blocks ∨ ∃ d gr, D d ∧ E1.G d = some gr ∧ b ∈ gr.blocks) := fun b hb => by
    simp only [T.blocks] at hb
    rcases List.mem_append.1 hb with hb | hb
    · obtain ⟨h1, h2⟩ := ar.head b hb
      exact ⟨h1, h2.imp id fun h => .inl (hRb b (List.mem_append.2 (.inl h)))⟩
    · rw [blocksEls_append] at hb
      rcases List.mem_append.1 hb with hb | hb
      · have hb' := hRb b (List.mem_append.2 (.inr ((blocksEls_sub _ _ _).subset hb)))
        exact ⟨Nat.lt_of_lt_of_le (hg1.lt b ⟨r, _, hG, hb'⟩) ar.size, .inr (.inl hb')⟩
      · obtain ⟨r', gr, hDr, _, hGr, hbr⟩ := ht.from_ b hb
        exact ⟨Nat.lt_of_lt_of_le (blocksEls_lt hg1 ht b hb) ar.size, .inr (.inr ⟨r', gr, hDr, hGr, hbr⟩)⟩
  -- what is left of the base
  have hX : (left fl0 k0 xs0 ver0 p = none ∧ (leftG p q (.row k0.sz A c els)) = none) ∨
      ∃ p' t' ver', left fl0 k0 xs0 ver0 p = some (.arr fl0 k0 xs0 ver' (some p')) ∧ (leftG p q (.row k0.sz A c els)) = some (.arr t') ∧
        (∀ E', Ext n E1 E' → E'.w = w' → RelRoot E' (.arr fl0 k0 xs0 ver' (some p')) (.arr t')) ∧ t'.blocks.Nodup ∧ (∀ b ∈ t'.blocks, b ∈ (T.row k0.sz A c els).blocks ∧ b ∉ (T.row V.row.k.sz A2 c2 ((R.els.drop off.toNat).take len.toNat ++ tss)).blocks) ∧
        ExtR (some (.arr fl0 k0 xs0 ver0 none)) (left fl0 k0 xs0 ver0 p) (some (.arr (.row k0.sz A c els))) (leftG p q (.row k0.sz A c els)) := by
    cases p with
    | nil => exact .inl ⟨rfl, rfl⟩
    | cons s p =>
      obtain ⟨t', ht'⟩ := setC_exists q _ .gap R hR
      obtain ⟨g1, g2, g3⟩ := gap_setC q _ t' R ht' hR hok hnd
      have hqne : q ≠ [] := by
        rintro rfl
        simp only [tpath] at hq
        split at hq
        · split at hq <;> cases hq
        · cases hq
      obtain ⟨els', rfl, hl'⟩ := setC_row hqne ht'
      simp only [hsp] at g3
      refine .inr ⟨s :: p, .row k0.sz A c els', ver0, rfl, by simp only [leftG, ht', Option.map_some], fun E' hx' hw' => ⟨A, c, els, q, hq, by simp, ha.imp (fun _ _ _ h => h.mono hx'.stay fl0 k0 _ _), ht', ?_⟩, g2, fun b hb => ⟨(g3 b hb).1, fun hb' => ?_⟩, ?_⟩
      · rw [hw']
        exact T.ok_mono _ (fun b hb => ar.keep b (hg1.lt b ⟨r, _, hG, (g3 b hb).1⟩) (fun hW => (g3 b hb).2 (by simp only [T.blocks]; exact List.mem_append.2 (.inl (ar.wr b hW))))) g1
      · obtain ⟨h1, h2⟩ := g3 b hb
        simp only [T.blocks] at hb' h2
        rcases List.mem_append.1 hb' with hb' | hb'
        · rcases (ar.head b hb').2 with h | h
          · have := hg1.lt b ⟨r, _, hG, h1⟩; omega
          · exact h2 (List.mem_append.2 (.inl h))
        · rw [blocksEls_append] at hb'
          rcases List.mem_append.1 hb' with hb' | hb'
          · exact h2 (List.mem_append.2 (.inr ((blocksEls_sub _ _ _).subset hb')))
          · exact hdis b hb' h1
      · simp only [leftG, ht', Option.map_some]
        refine ⟨fl0, xs0, ver0, none, _, _, rfl, rfl, rfl, Nat.le_refl _, fun R' hR' => ?_, rfl, fun _ => ⟨fun q2 R' hR' => ?_, fun h => by cases h⟩⟩
        · simp only [T.getRow, Option.some.injEq] at hR'
          subst hR'
          exact ⟨_, rfl, rfl, rfl, rfl, hl'.symm⟩
        · rcases setC_getRow q _ _ _ ht' q2 R' hR' with ⟨q3, rfl, h3⟩ | h3
          · rw [getRow_gap] at h3; cases h3
          · exact h3
  have hst := mv_step (tn := .row V.row.k.sz A2 c2 ((R.els.drop off.toNat).take len.toNat ++ tss)) (ds := (V.row.xs.drop off.toNat).take len.toNat ++ new) hg1 hH1 hr1 hG hm hmn ar.size ar.os ar.tape ar.output hWt ar.keep rfl hall ⟨ar.row, ar.els⟩ (by simp only [T.blocks]; exact ar.nodup) hbl hX
  have hrm : m ≠ r := fun h => hm (h ▸ hrn)
  refine ⟨v, _, hrun, (s1.trans hst).post rfl ?_ (by simpa [AV.ids] using hmn.2)⟩
  have hll : ((R.els.drop off.toNat).take len.toNat ++ tss).length = ((V.row.xs.drop off.toNat).take len.toNat ++ new).length := hall.length.symm
  have := sl_new (E := E1.mv H1 r m (left fl0 k0 xs0 ver0 p) (leftG p q (.row k0.sz A c els)) (.arr V.fl V.row.k ((V.row.xs.drop off.toNat).take len.toNat ++ new) 0 none) (.row V.row.k.sz A2 c2 ((R.els.drop off.toNat).take len.toNat ++ tss)) w')
    (by simp only [Env.mv]; rw [upd_other _ _ hrm, upd_same]) (by simp only [Env.mv]; rw [upd_other _ _ hrm, upd_same]) ar.row hll
  rw [ar.val, hll]
  exact this
end
end Go.Lite
end

section
/-
  LITE 41: append, whatever the base is.
-/
set_option linter.unusedVariables false
set_option linter.unusedSimpArgs false
namespace Go.Lite
open Go Go.RowKit

section
variable {P : Program} {hint : Nat → Hint} {glob : Nat → Option Comp} {E : Env} {n : Nat → Prop}

theorem KindIs.zeroAt {P : Program} {m : Nat} {t : TypeId} {k : K} {info : TypeInfo} (h : KindIs P m t k) (hi : P.info? t = some info) (w0 : World) : ∃ z, info.zero = some z ∧ info.size = k.sz ∧ z.cells.size = k.sz := by
  obtain ⟨info', v, h1, h2, h3, h4⟩ := h.zero
  rw [hi] at h1
  injection h1 with h1
  subst h1
  have := (h4 (fun _ => True) w0).length k _ _
  exact ⟨v, h2, h3, by rw [← Array.length_toList]; exact this⟩

theorem taken_front {D : Nat → Prop} {k : K} {l new : List k.D} {vss cellss : List (List Value)} {tss : List (List T)} (h : All2 (RepC E.S E.w k) l vss) (ht : TakenAll E (fun _ => False) D .no k new cellss tss) :
    TakenAll E (fun _ => False) D .no k (l ++ new) (vss ++ cellss) (vss.map (·.map T.leaf) ++ tss) := by
  have h1 : TakenAll E (fun _ => False) D .no k l vss (vss.map (·.map T.leaf)) := taken_leaf h
  refine ⟨All2.append h1.abs ht.abs, by rw [List.map_append, h1.val, ht.val], okEls_append _ _ h1.ok ht.ok, ?_, ?_, fun cs hcs => ?_⟩
  · rw [blocksEls_append, blocksEls_leaf, List.nil_append]; exact ht.nodup
  · rw [blocksEls_append, blocksEls_leaf, List.nil_append]; exact ht.from_
  · rcases List.mem_append.1 hcs with h | h
    · exact h1.one cs h
    · exact ht.one cs h

theorem append_ok {h : Hint} {t tx ty : TypeId} {base x : AV} {vb vx : Value} {m : Nat} {n' : Nat → Prop} {r : AV} {H' : Heap} (hg : Good E n) (hb : RelV E base vb) (hx : RelV E x vx) (htx : (∃ e', P.underlying tx = some (.slice e')) ∨ P.underlying tx = some .string)
    (hs : P.underlying tx = some .string → ∃ s, x = .data .str s) (hs2 : ∀ s, x = .data .str s → P.underlying tx = some .string) (hm : ¬ n m) (hmn : (∀ q, n q → n' q) ∧ n' m)
    (h : append (mkCx P hint glob) h E.H t base x m = some (r, H')) : ∃ v E', (Builtin.append_ #[t, tx] ty #[vb, vx]).run P E.w = .ok v E'.w ∧ Post E n ⟨r, H'⟩ n' v E' := by
  unfold append at h
  split at h
  · cases h
  · rename_i e i k hek
    obtain ⟨info, hu, hi, hk, h4, h5, h6⟩ := elemKind_some hek
    obtain ⟨z, hz, hsz, hzs⟩ := hk.zeroAt hi E.w
    split at h
    · -- nil
      rename_i t0
      obtain rfl : vb = .slice none 0 0 := hb
      split at h
      · rename_i H1 hadd
        simp only [Option.some.injEq, Prod.mk.injEq] at h
        obtain ⟨rfl, rfl⟩ := h
        obtain ⟨E1, D, cellss, tss, s1, w1, hH1, hD, ht, hsrc⟩ := added_ok hg hx htx hs hs2 hadd
        obtain ⟨l1, l2, l3⟩ := taken_len ht
        have hc0 : cellss = [] := List.length_eq_zero_iff.1 (by simpa using l2)
        subst hc0
        rw [← hsz] at hsrc
        exact ⟨_, E, run_append_nothing E.w t tx ty e info hu hi none 0 0 (Nat.le_refl _) vx hsrc, Post.same hg hmn.1 rfl (by simp [AV.ids])⟩
      · rename_i new H1 hne hadd
        obtain ⟨b1, b2, b3⟩ := appPut_some h
        injection b3 with b3 b4
        subst b3 b4
        rw [h5] at b1
        obtain ⟨E1, D, cellss, tss, s1, w1, hH1, hD, ht, hsrc⟩ := added_ok hg hx htx hs hs2 hadd
        have hnew : new ≠ [] := fun h0 => by subst h0; exact hne rfl
        have hpos : 0 < new.length := List.length_pos_iff.2 hnew
        rw [← hsz, ← w1] at hsrc
        obtain ⟨v, E2, hrun, st, hH2, hrel⟩ := grow_new (ty := ty) (base := none) (sLen := 0) (sCap := 0) (olds := []) (ds := new) s1.good hH1 hD ht hm hmn hu hi hz hsz hzs (firstCells_nil 0) hsrc rfl (by omega) (by omega) (by simpa using b1) (by simpa using b2)
        rw [w1] at hrun
        exact ⟨v, E2, hrun, (s1.trans st).post hH2 hrel (by simpa [AV.ids] using hmn.2)⟩
      · cases h
    · -- a literal
      rename_i k' l0
      split at h
      · rename_i l hl
        obtain ⟨e1, rfl⟩ := cast_some hl
        injection e1 with e1
        subst e1
        obtain ⟨A, rfl, hrow⟩ := hb
        split at h
        · rename_i H1 hadd
          simp only [Option.some.injEq, Prod.mk.injEq] at h
          obtain ⟨rfl, rfl⟩ := h
          obtain ⟨E1, D, cellss, tss, s1, w1, hH1, hD, ht, hsrc⟩ := added_ok hg hx htx hs hs2 hadd
          obtain ⟨l1, l2, l3⟩ := taken_len ht
          have hc0 : cellss = [] := List.length_eq_zero_iff.1 (by simpa using l2)
          subst hc0
          rw [← hsz] at hsrc
          exact ⟨_, E, run_append_nothing E.w t tx ty e info hu hi A l0.length l0.length (Nat.le_refl _) vx hsrc, Post.same hg hmn.1 ⟨A, rfl, hrow⟩ (by simp [AV.ids])⟩
        · rename_i new H1 hne hadd
          obtain ⟨b1, b2, b3⟩ := appPut_some h
          injection b3 with b3 b4
          subst b3 b4
          rw [h5] at b1
          obtain ⟨E1, D, cellss, tss, s1, w1, hH1, hD, ht, hsrc⟩ := added_ok hg hx htx hs hs2 hadd
          have hnew : new ≠ [] := fun h0 => by subst h0; exact hne rfl
          have hpos : 0 < new.length := List.length_pos_iff.2 hnew
          rw [← hsz, ← w1] at hsrc
          have hrow1 : RowAt E1.w E1.S k'.sz (RepC E1.S E1.w k') A l0 := hrow.imp s1.ext.stay (RepC.mono s1.ext.stay k')
          obtain ⟨vss, hv1, hv2⟩ := src_row (P := P) (E := E1) (S := E1.S) (c := l0.length) hu hrow1
          rw [← hsz] at hv2
          obtain ⟨v, E2, hrun, st, hH2, hrel⟩ := grow_new (ty := ty) (base := A) (sLen := l0.length) (sCap := l0.length) (olds := vss.flatten) (ds := l0 ++ new) s1.good hH1 hD (taken_front hv1 ht) hm hmn hu hi hz hsz hzs hv2.cellsD hsrc (by rw [List.flatten_append]) (by rw [List.length_append]) (by omega) (by rw [List.length_append]; exact b1) (by rw [List.length_append]; exact b2)
          rw [w1] at hrun
          exact ⟨v, E2, hrun, (s1.trans st).post hH2 hrel (by simpa [AV.ids] using hmn.2)⟩
        · cases h
      · cases h
    · -- a row of our own
      rename_i r0 ver p off len
      split at h
      · rename_i fl0 k0 xs0 ver0 V hr hV
        split at h
        · rename_i ys hys
          obtain ⟨e1, rfl⟩ := cast_some hys
          injection e1 with e1
          subst e1
          split at h
          · rename_i new H1 hadd
            split at h
            · rename_i hr1
              split at h
              · rename_i a H2 hput
                simp only [Option.some.injEq, Prod.mk.injEq] at h
                obtain ⟨rfl, rfl⟩ := h
                exact appendSl_ok hg hu hi hz hsz hzs h5 hr hV hb hx htx hs hs2 hm hmn hadd hr1 hput
              · cases h
            · cases h
          · cases h
        · cases h
      · cases h
    · cases h
end
end Go.Lite
end

section
/-
  LITE 42: one operation.
-/
set_option linter.unusedVariables false
set_option linter.unusedSimpArgs false
namespace Go.Lite
open Go Go.RowKit

theorem mapAll_rel {α β γ : Type} {f : α → Option β} {g : α → γ} {R : β → γ → Prop} (h : ∀ a b, f a = some b → R b (g a)) : ∀ {l : List α} {bs : List β}, mapAll f l = some bs → All2 R bs (l.map g)
  | [], bs, e => by injection e with e; subst e; trivial
  | a :: l, bs, e => by
    simp only [mapAll] at e
    split at e
    · rename_i b hb
      split at e
      · rename_i bs' hbs
        injection e with e
        subst e
        exact ⟨h a b hb, mapAll_rel h hbs⟩
      · cases e
    · cases e
theorem mapAll_mem {α β : Type} {f : α → Option β} : ∀ {l : List α} {bs : List β}, mapAll f l = some bs → ∀ b ∈ bs, ∃ a ∈ l, f a = some b
  | [], bs, e, b, hb => by injection e with e; subst e; cases hb
  | a :: l, bs, e, b, hb => by
    simp only [mapAll] at e
    split at e
    · rename_i b' hb'
      split at e
      · rename_i bs' hbs
        injection e with e
        subst e
        rcases List.mem_cons.1 hb with rfl | hb
        · exact ⟨a, by simp, hb'⟩
        · obtain ⟨a', h1, h2⟩ := mapAll_mem hbs b hb
          exact ⟨a', by simp [h1], h2⟩
      · cases e
    · cases e
theorem mem_idsAll' : ∀ {l : List AV} {q : Nat}, q ∈ idsAll l → ∃ v ∈ l, q ∈ v.ids
  | [], q, h => by cases h
  | v :: l, q, h => by
    simp only [idsAll, List.mem_append] at h
    rcases h with h | h
    · exact ⟨v, by simp, h⟩
    · obtain ⟨u, h1, h2⟩ := mem_idsAll' h
      exact ⟨u, by simp [h1], h2⟩

section
variable {P : Program} {hint : Nat → Hint} {glob : Nat → Option Comp} {E : Env} {n : Nat → Prop}

theorem store_ok {t : TypeId} {a x : AV} {va vx : Value} {H' : Heap} (hg : Good E n) (ha : RelV E a va) (hx : RelV E x vx) (hn : ∀ q ∈ x.ids, n q) (h : store (mkCx P hint glob) E.H t a x = some H') :
    ∃ E', (Instr.storeAt t va vx).run P E.w = .ok () E'.w ∧ Step1 E n E' n ∧ E'.H = H' := by
  cases a with
  | ptr r off => exact storeBox_ok hg ha hx hn h
  | el r ver p i fs =>
    simp only [store] at h
    split at h
    · rename_i fl k xs ver' hole hH
      split at h
      · cases h
      · rename_i hv
        obtain rfl : ver = ver' := by simpa using hv
        exact storeEl_ok hg hH ha hx h
    · cases h
  | _ => simp [store] at h

/-- What an operation does: a value, or nothing. -/
def Does (P : Program) (E : Env) (n : Nat → Prop) (o : Oper) (ρ : Operand → Value) (r : Res) (n' : Nat → Prop) : Prop :=
  ∃ v E', ((execOp ρ o).run P E.w = .ok (.value v) E'.w ∨ ((execOp ρ o).run P E.w = .ok .skip E'.w ∧ v = undef)) ∧ Post E n r n' v E'

theorem Does.pure {o : Oper} {ρ : Operand → Value} {r : AV} {n' : Nat → Prop} {v : Value} (hg : Good E n) (hn : ∀ q, n q → n' q) (hrun : (execOp ρ o).run P E.w = .ok (.value v) E.w) (hr : RelV E r v) (hi : ∀ q ∈ r.ids, n q) : Does P E n o ρ ⟨r, E.H⟩ n' :=
  ⟨v, E, .inl hrun, Post.same hg hn hr (fun q hq => hn _ (hi q hq))⟩
theorem Does.none {o : Oper} {ρ : Operand → Value} {r : AV} {n' : Nat → Prop} {v : Value} (hg : Good E n) (hn : ∀ q, n q → n' q) (hrun : (execOp ρ o).run P E.w = .ok (.value v) E.w) (hr : RelV E r v) (hi : r.ids = []) : Does P E n o ρ ⟨r, E.H⟩ n' :=
  Does.pure hg hn hrun hr (by rw [hi]; simp)
theorem Does.step {o : Oper} {ρ : Operand → Value} {n' : Nat → Prop} {H' : Heap} {E' : Env} (hrun : (execOp ρ o).run P E.w = .ok .skip E'.w) (hs : Step1 E n E' n') (hH : E'.H = H') : Does P E n o ρ ⟨.skip, H'⟩ n' :=
  ⟨undef, E', .inr ⟨hrun, rfl⟩, hs.post hH rfl (by simp [AV.ids])⟩

/-- Operands' values, as the evaluator has them. -/
def Ev (P : Program) (hint : Nat → Hint) (glob : Nat → Option Comp) (E : Env) (n : Nat → Prop) (s : Slots) (ρ : Operand → Value) : Prop :=
  ∀ x av, operand (mkCx P hint glob) s x = some av → RelV E av (ρ x) ∧ ∀ q ∈ av.ids, n q

theorem ev_all {s : Slots} {ρ : Operand → Value} (hev : Ev P hint glob E n s ρ) {l : List Operand} {avs : List AV} (h : mapAll (operand (mkCx P hint glob) s) l = some avs) : All2 (RelV E) avs (l.map ρ) ∧ ∀ q ∈ idsAll avs, n q := by
  refine ⟨mapAll_rel (fun a b hab => (hev a b hab).1) h, fun q hq => ?_⟩
  obtain ⟨v, hv, hqv⟩ := mem_idsAll' hq
  obtain ⟨a, _, ha⟩ := mapAll_mem h v hv
  exact (hev a v ha).2 q hqv
theorem ev_parts {s : Slots} {ρ : Operand → Value} (hev : Ev P hint glob E n s ρ) {l : List (Nat × Operand)} {ps : List (Nat × AV)} (h : mapAll (fun p => (operand (mkCx P hint glob) s p.2).map (p.1, ·)) l = some ps) :
    All2 (fun p q => p.1 = q.1 ∧ RelV E p.2 q.2) ps (l.map fun (i, x) => (i, ρ x)) ∧ ∀ p ∈ ps, ∀ q ∈ p.2.ids, n q := by
  have key : ∀ (a : Nat × Operand) (b : Nat × AV), (operand (mkCx P hint glob) s a.2).map (a.1, ·) = some b → b.1 = a.1 ∧ operand (mkCx P hint glob) s a.2 = some b.2 := by
    intro a b hab
    obtain ⟨av, h1, rfl⟩ := map_some hab
    exact ⟨rfl, h1⟩
  refine ⟨mapAll_rel (g := fun (x : Nat × Operand) => (x.1, ρ x.2)) (fun a b hab => ⟨(key a b hab).1, (hev _ _ (key a b hab).2).1⟩) h, fun p hp => ?_⟩
  obtain ⟨a, _, ha⟩ := mapAll_mem h p hp
  exact (hev _ _ (key a p ha).2).2

theorem optRel_of {s : Slots} {ρ : Operand → Value} (hev : Ev P hint glob E n s ρ) {y : Option Operand} {r : Option AV} (h : (match y with | some y => (match operand (mkCx P hint glob) s y with | some v => some (some v) | none => none) | none => some none) = some r) : OptRel E r (y.map ρ) := by
  cases y with
  | none => injection h with h; subst h; trivial
  | some y =>
    simp only at h
    split at h
    · rename_i v hv
      injection h with h
      subst h
      exact (hev y v hv).1
    · cases h

theorem nilCheck_run {o : Oper} {ρ : Operand → Value} {x : Operand} {v : Value} (ho : o.op = .nilCheck x) (hv : ρ x = v) (h : (∃ a, v = .pointer (some a)) ∨ (∃ f vs, v = .func (.func f) #[] vs) ∨ ∃ t u, v = .iface t u) (w : World) : (execOp ρ o).run P w = .ok (.value v) w := by
  unfold execOp
  simp only [ho, hv]
  rcases h with ⟨a, rfl⟩ | ⟨f, vs, rfl⟩ | ⟨t, u, rfl⟩ <;> rfl
end
end Go.Lite
end

section
/-
  LITE 43: every operation but a call.
-/
set_option linter.unusedVariables false
set_option linter.unusedSimpArgs false
namespace Go.Lite
open Go Go.RowKit

section
variable {P : Program} {hint : Nat → Hint} {glob : Nat → Option Comp} {E : Env} {n : Nat → Prop}

theorem v_run {α : Type} {x : Sem Value} {w w' : World} {v : Value} (h : x.run P w = .ok v w') : (do pure (Next.value (← x)) : Sem Next).run P w = .ok (.value v) w' := by
  rw [Sem.run_bind, h, Result.andThen_ok]; rfl
theorem u_run {x : Sem Unit} {w w' : World} (h : x.run P w = .ok () w') : (do x; pure Next.skip : Sem Next).run P w = .ok .skip w' := by
  rw [Sem.run_bind, h, Result.andThen_ok]; rfl
theorem valO_some {v : Option AV} {H : Heap} {r : Res} (h : (match v with | some v => some (⟨v, H⟩ : Res) | none => none) = some r) : ∃ a, v = some a ∧ r = ⟨a, H⟩ := by
  cases v with
  | none => cases h
  | some a => injection h with h; exact ⟨a, rfl, h.symm⟩
theorem mkO_some {v : Option (AV × Heap)} {r : Res} (h : (match v with | some (v, H) => some (⟨v, H⟩ : Res) | none => none) = some r) : ∃ a H, v = some (a, H) ∧ r = ⟨a, H⟩ := by
  cases v with
  | none => cases h
  | some a => injection h with h; exact ⟨a.1, a.2, rfl, h.symm⟩

theorem zip_parts {avs : List (Nat × AV)} {ps : List (Nat × Value)} (hp : All2 (fun p q => p.1 = q.1 ∧ RelV E p.2 q.2) avs ps) : All2 (RelV E) (avs.map (·.2)) (ps.map (·.2)) ∧ ∀ i, (avs.zipIdx i).all (fun p => p.1.1 == p.2) = true → (ps.zipIdx i).all (fun p => p.1.1 == p.2) = true := by
  induction avs generalizing ps with
  | nil => cases ps with
    | nil => exact ⟨trivial, fun _ h => h⟩
    | cons _ _ => exact hp.elim
  | cons a avs ih => cases ps with
    | nil => exact hp.elim
    | cons p ps =>
      obtain ⟨⟨h1, h2⟩, h3⟩ := hp
      obtain ⟨i1, i2⟩ := ih h3
      refine ⟨⟨h2, i1⟩, fun i h => ?_⟩
      simp only [List.zipIdx_cons, List.all_cons, Bool.and_eq_true] at h ⊢
      exact ⟨by rw [← h1]; exact h.1, i2 _ h.2⟩

theorem minmax_all {mx : Bool} {l : List AV} {x r : AV} {vx : Value} {vs : List Value} (hx : RelV E x vx) (hl : All2 (RelV E) l vs) (h : minmax mx x l = some r) (hn : ∀ q ∈ x.ids, n q) :
    ∃ v, (vs.foldlM (match mx with | true => Builtin.max2 | false => Builtin.min2) vx).run P E.w = .ok v E.w ∧ RelV E r v ∧ ∀ q ∈ r.ids, n q := by
  cases l with
  | nil =>
    have h : some x = some r := by cases x <;> exact h
    injection h with h
    subst h
    cases vs with
    | nil => exact ⟨vx, rfl, hx, hn⟩
    | cons _ _ => exact hl.elim
  | cons y l =>
    have hi : x.ids = [] := by
      unfold minmax at h
      split at h
      · rename_i heq; cases heq
      · rfl
      · cases h
    obtain ⟨v, h1, h2, h3⟩ := minmax_ok (P := P) (y :: l) x r vx vs hx hl h hi
    exact ⟨v, h1, h2, by simp [h3]⟩

theorem op_ok {h : Hint} {callF : CallF} {o : Oper} {s : St} {ρ : Operand → Value} {m : Nat} {n' : Nat → Prop} {r : Res} (hg : Good E n) (hH : E.H = s.heap) (hev : Ev P hint glob E n s.slots ρ) (hm : ¬ n m) (hmn : (∀ q, n q → n' q) ∧ n' m) (hcall : ∀ c f, o.op = .call c → c.callee ≠ .value f)
    (he : evalOp (mkCx P hint glob) h callF o s m = some r) : Does P E n o ρ r n' := by
  have hnn := hmn.1
  unfold evalOp at he
  simp only [← hH] at he
  cases hop : o.op with
  | move x =>
    simp only [hop] at he
    have hrun : (execOp ρ o).run P E.w = .ok (.value (ρ x)) E.w := by unfold execOp; simp only [hop]; rfl
    split at he
    · rename_i hx
      obtain ⟨h1, h2⟩ := hev x _ hx
      have h1 : ρ x = .slice none 0 0 := h1
      split at he
      · obtain ⟨a, H, hn, rfl⟩ := mkO_some he
        obtain ⟨E', w1, hp⟩ := nilOf_ok hg hm hmn hn
        rw [h1] at hrun
        exact ⟨_, E', .inl (by rw [w1]; exact hrun), hp⟩
      · injection he with he
        subst he
        exact Does.pure hg hnn hrun h1 h2
    · rename_i av _ hx
      injection he with he
      subst he
      exact Does.pure hg hnn hrun (hev x _ hx).1 (hev x _ hx).2
    · cases he
  | assign x =>
    simp only [hop] at he
    have hrun : (execOp ρ o).run P E.w = .ok (.value (ρ x)) E.w := by unfold execOp; simp only [hop]; rfl
    split at he
    · rename_i hx
      obtain ⟨h1, h2⟩ := hev x _ hx
      have h1 : ρ x = .slice none 0 0 := h1
      split at he
      · obtain ⟨a, H, hn, rfl⟩ := mkO_some he
        obtain ⟨E', w1, hp⟩ := nilOf_ok hg hm hmn hn
        rw [h1] at hrun
        exact ⟨_, E', .inl (by rw [w1]; exact hrun), hp⟩
      · injection he with he
        subst he
        exact Does.pure hg hnn hrun h1 h2
    · rename_i av _ hx
      injection he with he
      subst he
      exact Does.pure hg hnn hrun (hev x _ hx).1 (hev x _ hx).2
    · cases he
  | pick c a b =>
    simp only [hop] at he
    split at he
    · rename_i b' hc
      have hc := relV_bool.1 (hev c _ hc).1
      cases b' with
      | true =>
        obtain ⟨av, ha, rfl⟩ := valO_some he
        exact Does.pure hg hnn (v := ρ a) (by unfold execOp; simp only [hop, hc]; rfl) (hev a _ ha).1 (hev a _ ha).2
      | false =>
        obtain ⟨av, ha, rfl⟩ := valO_some he
        exact Does.pure hg hnn (v := ρ b) (by unfold execOp; simp only [hop, hc]; rfl) (hev b _ ha).1 (hev b _ ha).2
    · cases he
  | unOp op t x =>
    simp only [hop] at he
    split at he
    · rename_i x' hx
      obtain ⟨a, ha, rfl⟩ := valO_some he
      obtain ⟨v, h1, h2, h3⟩ := unOp_ok (P := P) (hev x _ hx).1 ha
      exact Does.none hg hnn (by unfold execOp; simp only [hop]; exact v_run (α := Unit) h1) h2 h3
    · cases he
  | binOp op t x y z =>
    simp only [hop] at he
    split at he
    · rename_i x' y' hx hy
      obtain ⟨a, ha, rfl⟩ := valO_some he
      obtain ⟨v, h1, h2, h3⟩ := binOp_ok (ox := x) (oy := y) (hev x _ hx).1 (hev y _ hy).1 ha
      exact Does.none hg hnn (by unfold execOp; simp only [hop]; exact v_run (α := Unit) h1) h2 h3
    · cases he
  | convert t u x =>
    simp only [hop] at he
    split at he
    · rename_i x' hx
      obtain ⟨a, ha, rfl⟩ := valO_some he
      obtain ⟨v, h1, h2, h3⟩ := convert_ok hg (hev x _ hx).1 ha
      exact Does.none hg hnn (by unfold execOp; simp only [hop]; exact v_run (α := Unit) h1) h2 h3
    · cases he
  | extract x i =>
    simp only [hop] at he
    split at he
    · rename_i l hx
      obtain ⟨a, ha, rfl⟩ := valO_some he
      obtain ⟨hx1, hx2⟩ := hev x _ hx
      obtain ⟨vs, hv, hr⟩ := hx1
      have hl : ∀ (l : List AV) (i : Nat), get? l i = l[i]? := by
        intro l
        induction l with
        | nil => intro i; rfl
        | cons a l ih => intro i; cases i with
          | zero => rfl
          | succ i => simp only [get?, ih, List.getElem?_cons_succ]
      rw [hl] at ha
      obtain ⟨v, hv1, hv2⟩ := (RelAll.iff.1 hr).get i a ha
      refine Does.pure hg hnn (v := v) ?_ hv2 (fun q hq => hx2 q (mem_idsAll ha q hq))
      unfold execOp
      simp only [hop]
      refine v_run (α := Unit) ?_
      rw [hv]
      unfold Instr.extract
      have : vs[i]? = some v := by rw [← Array.getElem?_toList]; exact hv1
      simp only [this]
      rfl
    · cases he
  | nilCheck x =>
    simp only [hop] at he
    split at he
    · rename_i r0 o0 hx
      injection he with he
      subst he
      obtain ⟨h1, h2⟩ := hev x _ hx
      obtain ⟨g, hv, _⟩ := id h1
      exact Does.pure hg hnn (nilCheck_run hop rfl (.inl ⟨_, hv⟩) _) h1 h2
    · rename_i k d hx
      injection he with he
      subst he
      obtain ⟨h1, h2⟩ := hev x _ hx
      obtain ⟨a, cs, hv, _⟩ := id h1
      exact Does.pure hg hnn (nilCheck_run hop rfl (.inl ⟨_, hv⟩) _) h1 h2
    · rename_i r0 ver p i fs hx
      injection he with he
      subst he
      obtain ⟨h1, h2⟩ := hev x _ hx
      obtain ⟨_, ⟨a, hv⟩, _⟩ := id h1
      exact Does.pure hg hnn (nilCheck_run hop rfl (.inl ⟨_, hv⟩) _) h1 h2
    · rename_i f caps hx
      injection he with he
      subst he
      obtain ⟨h1, h2⟩ := hev x _ hx
      obtain ⟨vs, hv, _⟩ := id h1
      exact Does.pure hg hnn (nilCheck_run hop rfl (.inr (.inl ⟨_, _, hv⟩)) _) h1 h2
    · rename_i t u hx
      injection he with he
      subst he
      obtain ⟨h1, h2⟩ := hev x _ hx
      obtain ⟨vs, hv, _⟩ := id h1
      exact Does.pure hg hnn (nilCheck_run hop rfl (.inr (.inr ⟨_, _, hv⟩)) _) h1 h2
    · cases he
  | fieldAddr t x f =>
    simp only [hop] at he
    split at he
    · rename_i x' hx
      obtain ⟨a, ha, rfl⟩ := valO_some he
      obtain ⟨v, h1, h2, h3⟩ := fieldAddr_ok hg (hev x _ hx).1 (hev x _ hx).2 ha
      exact Does.pure hg hnn (by unfold execOp; simp only [hop]; exact v_run (α := Unit) h1) h2 h3
    · cases he
  | field t x f =>
    simp only [hop] at he
    split at he
    · rename_i x' hx
      obtain ⟨a, ha, rfl⟩ := valO_some he
      obtain ⟨v, h1, h2, h3⟩ := field_ok (hev x _ hx).1 (hev x _ hx).2 ha
      exact Does.pure hg hnn (by unfold execOp; simp only [hop]; exact v_run (α := Unit) h1) h2 h3
    · cases he
  | load t a =>
    simp only [hop] at he
    split at he
    · rename_i x' hx
      obtain ⟨a, ha, rfl⟩ := valO_some he
      obtain ⟨v, h1, h2, h3⟩ := load_ok hg (hev _ _ hx).1 (hev _ _ hx).2 ha
      exact Does.pure hg hnn (by unfold execOp; simp only [hop]; exact v_run (α := Unit) h1) h2 h3
    · cases he
  | store t a x =>
    simp only [hop] at he
    split at he
    · rename_i a' ha hx
      split at he
      · rename_i x1 H1 hn
        split at he
        · rename_i H2 hst
          injection he with he
          subst he
          obtain ⟨h1, _⟩ := hev x _ hx
          have h1 : ρ x = .slice none 0 0 := h1
          obtain ⟨E1, w1, hp⟩ := nilOf_ok (n' := n') hg hm hmn hn
          have s1 := hp.step hnn
          have hH1 : H1 = E1.H := hp.H.symm
          subst hH1
          obtain ⟨E2, hrun, s2, hH2⟩ := store_ok s1.good ((hev a _ ha).1.ext s1.ext _ _ (hev a _ ha).2) hp.rel hp.names hst
          rw [w1] at hrun
          exact Does.step (by unfold execOp; simp only [hop, h1]; exact u_run hrun) (s1.trans s2) hH2
        · cases he
      · cases he
    · rename_i a' x' _ ha hx
      split at he
      · rename_i H2 hst
        injection he with he
        subst he
        obtain ⟨E2, hrun, s2, hH2⟩ := store_ok hg (hev a _ ha).1 (hev x _ hx).1 (hev x _ hx).2 hst
        exact Does.step (by unfold execOp; simp only [hop]; exact u_run hrun) (s2.trans (Step1.refl s2.good hnn)) hH2
      · cases he
    · cases he
  | build t ps =>
    simp only [hop] at he
    split at he
    · rename_i avs hps
      obtain ⟨a, ha, rfl⟩ := valO_some he
      obtain ⟨h1, h2⟩ := ev_parts hev hps
      obtain ⟨v, hrun, hr, hi⟩ := build_ok (vps := ps.map fun (i, x) => (i, ρ x)) (by rw [Array.toList_map]; exact h1) h2 ha
      exact Does.pure hg hnn (by unfold execOp; simp only [hop]; exact v_run (α := Unit) hrun) hr hi
    · cases he
  | box t x =>
    simp only [hop] at he
    split at he
    · rename_i x' hx
      split at he
      · rename_i cs hcs
        injection he with he
        subst he
        obtain ⟨v, E', hrun, hp⟩ := box_ok (t := t) hg hm hmn (hev x _ hx).1 (hev x _ hx).2 hcs
        exact ⟨v, E', .inl (by unfold execOp; simp only [hop]; exact v_run (α := Unit) hrun), hp⟩
      · cases he
    · cases he
  | alloc t =>
    simp only [hop] at he
    split at he
    · rename_i cs hz
      injection he with he
      subst he
      obtain ⟨v, E', hrun, hp⟩ := alloc_ok (old := .tuple #[]) hg hm hmn hz
      exact ⟨v, E', .inl (by unfold execOp; simp only [hop]; exact v_run (α := Unit) hrun), hp⟩
    · cases he
  | buildSlice t len ps =>
    simp only [hop] at he
    split at he
    · rename_i avs e i k hps hek
      split at he
      · rename_i hc
        simp only [Bool.and_eq_true, beq_iff_eq, decide_eq_true_eq] at hc
        obtain ⟨⟨⟨hlen, hzip⟩, hlim⟩, hpos⟩ := hc
        obtain ⟨h1, h2⟩ := ev_parts hev hps
        obtain ⟨z1, z2⟩ := zip_parts h1
        have hz := zipIdx_of 0 (z2 0 hzip)
        have hll : (List.map (fun x : Nat × Value => x.2) (ps.toList.map fun (x : Nat × Operand) => (x.1, ρ x.2))).length = len := by rw [← z1.length, List.length_map]; exact hlen
        have hids : ∀ q ∈ idsAll (avs.map (·.2)), n q := fun q hq => by
          obtain ⟨v, hv, hqv⟩ := mem_idsAll' hq
          obtain ⟨p, hp, rfl⟩ := List.mem_map.1 hv
          exact h2 p hp q hqv
        have hps2 : (ps.map fun (x : Nat × Operand) => (x.1, ρ x.2)).toList = (((ps.toList.map fun (x : Nat × Operand) => (x.1, ρ x.2)).map (·.2)).zipIdx 0).map fun x => (x.2, x.1) := by rw [Array.toList_map]; exact hz
        split at he
        · rename_i fl hgf
          split at he
          · rename_i ds H1 hab
            injection he with he
            subst he
            obtain ⟨v, E', hrun, hs, hH', hr, _⟩ := buildSlice_ok hg hm hmn hek z1 hids hps2 hpos (by rw [hll]; exact hlim) hab
            rw [hll] at hrun
            exact ⟨v, E', .inl (by unfold execOp; simp only [hop]; exact v_run (α := Unit) hrun), hs.post hH' hr (by simpa [AV.ids] using hmn.2)⟩
          · cases he
        · split at he
          · rename_i ds H1 hab
            injection he with he
            subst he
            obtain ⟨v, E', hrun, hp⟩ := buildLit_ok hg hm hmn hek z1 hids hps2 hpos (by rw [hll]; exact hlim) hab
            rw [hll] at hrun
            exact ⟨v, E', .inl (by unfold execOp; simp only [hop]; exact v_run (α := Unit) hrun), hp⟩
          · cases he
      · cases he
    · cases he
  | indexAddr t x i =>
    simp only [hop] at he
    split at he
    · rename_i x' i' hx hi
      obtain ⟨a, ha, rfl⟩ := valO_some he
      obtain ⟨v, h1, h2, h3⟩ := indexAddr_ok hg (hev _ _ hx).1 (hev _ _ hi).1 (hev _ _ hx).2 ha
      exact Does.pure hg hnn (by unfold execOp; simp only [hop]; exact v_run (α := Unit) h1) h2 h3
    · cases he
  | index t x i =>
    simp only [hop] at he
    split at he
    · rename_i x' i' hx hi
      obtain ⟨a, ha, rfl⟩ := valO_some he
      obtain ⟨v, h1, h2, h3⟩ := index_ok (hev _ _ hx).1 (hev _ _ hi).1 ha
      exact Does.none hg hnn (by unfold execOp; simp only [hop]; exact v_run (α := Unit) h1) h2 h3
    · cases he
  | makeSlice t x c =>
    simp only [hop] at he
    split at he
    · rename_i x' c' hx hc
      obtain ⟨a, H, ha, rfl⟩ := mkO_some he
      obtain ⟨v, E', hrun, hp⟩ := makeSlice_ok hg (hev _ _ hx).1 (hev _ _ hc).1 hm hmn ha
      exact ⟨v, E', .inl (by unfold execOp; simp only [hop]; exact v_run (α := Unit) hrun), hp⟩
    · cases he
  | slice t x lo hi mx =>
    simp only [hop] at he
    split at he
    · rename_i x' lo' hi' mx' hx hlo hhi hmx
      obtain ⟨a, ha, rfl⟩ := valO_some he
      obtain ⟨v, h1, h2, h3⟩ := cut_ok hg (hev _ _ hx).1 (optRel_of hev hlo) (optRel_of hev hhi) (optRel_of hev hmx) (hev _ _ hx).2 ha
      exact Does.pure hg hnn (by unfold execOp; simp only [hop]; exact v_run (α := Unit) h1) h2 h3
    · cases he
  | makeMap t x =>
    simp only [hop] at he
    split at he
    · rename_i a b htd
      split at he
      · rename_i ka kb hka hkb
        split at he
        · rename_i hc
          simp only [Bool.and_eq_true] at hc
          obtain ⟨⟨c1, c2⟩, c3⟩ := hc
          injection he with he
          subst he
          have hr : x.map ρ = none ∨ ∃ k i, x.map ρ = some (.int k i) := by
            cases x with
            | none => exact .inl rfl
            | some x =>
              simp only at c3
              split at c3
              · rename_i k i hx
                exact .inr ⟨k, i, by rw [Option.map_some, relV_int.1 (hev x _ hx).1]⟩
              · cases c3
          obtain ⟨v, E', hrun, hp⟩ := makeMap_ok (hint := hint) (glob := glob) (t := t) (vr := x.map ρ) hg hm hmn c1 c2 (by unfold isMapT; rw [htd]) hr
          exact ⟨v, E', .inl (by unfold execOp; simp only [hop]; exact v_run (α := Unit) hrun), hp⟩
        · cases he
      · cases he
    · cases he
  | lookup t x i ok =>
    simp only [hop] at he
    split at he
    · rename_i x' i' hx hi
      obtain ⟨a, ha, rfl⟩ := valO_some he
      obtain ⟨v, h1, h2, h3⟩ := lookup_ok hg (hev _ _ hx).1 (hev _ _ hi).1 ha
      exact Does.none hg hnn (by unfold execOp; simp only [hop]; exact v_run (α := Unit) h1) h2 h3
    · cases he
  | mapUpdate t x i y =>
    simp only [hop] at he
    split at he
    · rename_i x' i' y' hx hi hy
      split at he
      · rename_i H2 hst
        injection he with he
        subst he
        obtain ⟨E2, hrun, s2, hH2⟩ := mapUpdate_ok hg (hev _ _ hx).1 (hev _ _ hi).1 (hev _ _ hy).1 hst
        exact Does.step (by unfold execOp; simp only [hop]; exact u_run hrun) (s2.trans (Step1.refl s2.good hnn)) hH2
      · cases he
    · cases he
  | makeInterface t x =>
    simp only [hop] at he
    split at he
    · cases he
    · rename_i x' d hni hx htd
      injection he with he
      subst he
      obtain ⟨h1, h2⟩ := hev x _ hx
      obtain ⟨d', hu, hd⟩ := tdAt_under htd
      refine Does.pure hg hnn (v := .iface t (ρ x)) ?_ ⟨_, rfl, h1⟩ h2
      unfold execOp
      simp only [hop]
      refine v_run (α := Unit) ?_
      unfold Instr.makeInterface
      rw [Sem.run_bind, run_underlying hu, Result.andThen_ok]
      cases d' with
      | interface ms => simp only [tdOf] at hd; exact (hni hd.symm).elim
      | _ => rfl
    · cases he
  | makeFunc fn first caps =>
    simp only [hop] at he
    cases fn with
    | func f =>
      simp only at he
      split at he
      · rename_i cs hcs hf
        injection he with he
        subst he
        obtain ⟨h1, h2⟩ := ev_all hev hcs
        have hf0 : first = #[] := Array.toList_inj.1 hf
        refine Does.pure hg hnn (v := .func (.func f) #[] (caps.map ρ)) ?_ ⟨caps.map ρ, rfl, RelAll.iff.2 (by rw [Array.toList_map]; exact h1)⟩ h2
        unfold execOp
        simp only [hop, hf0]
        refine v_run (α := Unit) ?_
        simp [Instr.makeFunc]
      · cases he
    | _ => cases he
  | call c =>
    simp only [hop] at he
    split at he
    · cases he
    · rename_i args hargs
      obtain ⟨h1, h2⟩ := ev_all hev hargs
      cases hcal : c.callee with
      | value f => exact absurd hcal (hcall c f hop)
      | invoke x y => simp only [hcal] at he; cases he
      | builtin b =>
        simp only [hcal] at he
        have go : ∀ {N : Next} {w' : World}, (builtin b c.argTypes o.type (c.args.map fun | .const _ => true | _ => false) (c.args.map ρ)).run P E.w = .ok N w' → (execOp ρ o).run P E.w = .ok N w' := by
          intro N w' hN
          unfold execOp
          simp only [hop, resolve, hcal, invoke, Sem.run_bind, Sem.run_pure, Result.andThen_ok]
          exact hN
        have ha : ∀ l : List Value, c.args.toList.map ρ = l → c.args.map ρ = l.toArray := fun l hl => by rw [← hl, ← Array.toList_map]
        split at he
        · rename_i x t _ hty
          split at he
          · rename_i k hlen
            injection he with he
            subst he
            obtain ⟨vx, hvx, hr⟩ : ∃ vx, c.args.toList.map ρ = [vx] ∧ RelV E x vx := by
              generalize c.args.toList.map ρ = l at h1
              match l, h1 with
              | [v], h1 => exact ⟨v, rfl, h1.1⟩
              | [], h1 => exact h1.elim
              | _ :: _ :: _, h1 => exact h1.2.elim
            have hat : c.argTypes[0]? = some t := by rw [← Array.getElem?_toList, hty]; rfl
            have hrun := lenOf_ok (ty := o.type) hg hr hat hlen
            exact Does.none hg hnn (go (by rw [ha _ hvx]; exact v_run (α := Unit) hrun)) (relV_intV.2 rfl) rfl
          · cases he
        · rename_i _ a b t u hty
          split at he
          · rename_i d htd
            split at he
            · rename_i hso
              obtain ⟨r1, H1, happ, rfl⟩ := mkO_some he
              obtain ⟨va, vb, hvv, hra, hrb⟩ : ∃ va vb, c.args.toList.map ρ = [va, vb] ∧ RelV E a va ∧ RelV E b vb := by
                generalize c.args.toList.map ρ = l at h1
                match l, h1 with
                | [v, v'], h1 => exact ⟨v, v', rfl, h1.1, h1.2.1⟩
                | [], h1 => exact h1.elim
                | [_], h1 => exact h1.2.elim
                | _ :: _ :: _ :: _, h1 => exact h1.2.2.elim
              have hat : c.argTypes = #[t, u] := Array.toList_inj.1 hty
              obtain ⟨d', hu, hd'⟩ := tdAt_under htd
              have htx : (∃ e', P.underlying u = some (.slice e')) ∨ P.underlying u = some .string := by
                subst hd'
                unfold srcOk at hso
                split at hso
                · rename_i h0; rw [td_inv.2.2.1 h0] at hu; exact .inr hu
                · cases hso
                · rename_i e h0 _; rw [td_inv.1 _ h0] at hu; exact .inl ⟨e, hu⟩
                · cases hso
              have hs : P.underlying u = some .string → ∃ s, b = .data .str s := by
                intro h0
                rw [h0] at hu
                injection hu with hu
                subst hu
                subst hd'
                unfold srcOk at hso
                split at hso
                · exact ⟨_, rfl⟩
                · cases hso
                · rename_i h0 _; cases h0
                · cases hso
              have hs2 : ∀ s, b = .data .str s → P.underlying u = some .string := by
                rintro s rfl
                rcases htx with ⟨e', h0⟩ | h0
                · rw [h0] at hu
                  injection hu with hu
                  subst hu
                  subst hd'
                  cases hso
                · exact h0
              obtain ⟨v, E', hrun, hp⟩ := append_ok (ty := o.type) hg hra hrb htx hs hs2 hm hmn happ
              exact ⟨v, E', .inl (go (by rw [ha _ hvv, hat]; exact v_run (α := Unit) hrun)), hp⟩
            · cases he
          · cases he
        · rename_i _ x l
          obtain ⟨a, hmm, rfl⟩ := valO_some he
          obtain ⟨vx, vs, hvv, hra, hrb⟩ : ∃ va vb, c.args.toList.map ρ = va :: vb ∧ RelV E x va ∧ All2 (RelV E) l vb := by
            generalize c.args.toList.map ρ = l at h1
            match l, h1 with
            | v :: v', h1 => exact ⟨v, v', rfl, h1.1, h1.2⟩
            | [], h1 => exact h1.elim
          obtain ⟨v, hrun, hr, hi⟩ := minmax_all (mx := false) (P := P) hra hrb hmm (fun q hq => h2 q (by simp [idsAll, hq]))
          refine Does.pure hg hnn (go (v_run (α := Unit) ?_)) hr hi
          unfold Builtin.min_
          rw [ha _ hvv]
          exact hrun
        · rename_i _ x l
          obtain ⟨a, hmm, rfl⟩ := valO_some he
          obtain ⟨vx, vs, hvv, hra, hrb⟩ : ∃ va vb, c.args.toList.map ρ = va :: vb ∧ RelV E x va ∧ All2 (RelV E) l vb := by
            generalize c.args.toList.map ρ = l at h1
            match l, h1 with
            | v :: v', h1 => exact ⟨v, v', rfl, h1.1, h1.2⟩
            | [], h1 => exact h1.elim
          obtain ⟨v, hrun, hr, hi⟩ := minmax_all (mx := true) (P := P) hra hrb hmm (fun q hq => h2 q (by simp [idsAll, hq]))
          refine Does.pure hg hnn (go (v_run (α := Unit) ?_)) hr hi
          unfold Builtin.max_
          rw [ha _ hvv]
          exact hrun
        · cases he
  | _ => simp [hop] at he
end
end Go.Lite
end

section
/-
  LITE 44: the same with other names.
-/
set_option linter.unusedVariables false
set_option linter.unusedSimpArgs false
namespace Go.Lite
open Go Go.RowKit

/-- The roots of E by other names: what has none is forgotten. -/
structure Ren (E E2 : Env) (f : Nat → Option Nat) : Prop where
  w : E2.w = E.w
  H : ∀ r j, f r = some j → E2.H j = (E.H r).map (Root.ren f)
  G : ∀ r j, f r = some j → E2.G j = E.G r

/-- What is read lies where it may be read, or there are no rows in it. -/
def SubS (E E2 : Env) (x : Bool) : Prop := (∀ b, E.S b → E2.S b) ∨ x = false
theorem SubS.left {E E2 : Env} {x y : Bool} (h : SubS E E2 (x || y)) : SubS E E2 x := h.imp id (fun h => by cases x <;> simp_all)
theorem SubS.right {E E2 : Env} {x y : Bool} (h : SubS E E2 (x || y)) : SubS E E2 y := h.imp id (fun h => by cases x <;> simp_all)

theorem SlRel.ren {E E2 : Env} {f : Nat → Option Nat} (h : Ren E E2 f) {r j ver : Nat} {p : List Step} {off len : Int} {v : Value} (hf : f r = some j) (hv : SlRel E r ver p off len v) : SlRel E2 j ver p off len v := by
  obtain ⟨h0, h1, hh, h2⟩ := hv
  refine ⟨h0, h1, hh, ?_⟩
  rw [h.H r j hf, h.G r j hf]
  cases hH : E.H r with
  | none => trivial
  | some root =>
    rw [hH] at h2
    cases root with
    | arr fl k xs ver' hole => exact h2
    | frz k xs => exact h2
    | _ => trivial
theorem ElRel.ren {E E2 : Env} {f : Nat → Option Nat} (h : Ren E E2 f) {r j ver : Nat} {p : List Step} {i : Int} {fs : List Nat} {v : Value} (hf : f r = some j) (hv : ElRel E r ver p i fs v) : ElRel E2 j ver p i fs v := by
  obtain ⟨h0, hh, h2⟩ := hv
  refine ⟨h0, hh, ?_⟩
  rw [h.H r j hf, h.G r j hf]
  cases hH : E.H r with
  | none => trivial
  | some root =>
    rw [hH] at h2
    cases root with
    | arr fl k xs ver' hole => exact h2
    | frz k xs => exact h2
    | _ => trivial

theorem repC_sub {E E2 : Env} (hw : E2.w = E.w) {k : K} (hs : SubS E E2 (!k.flatRows)) {d : k.D} {cs : List Value} (hr : RepC E.S E.w k d cs) : RepC E2.S E2.w k d cs := by
  rw [hw]
  rcases hs with hs | hs
  · exact hr.mono (fun b hb => ⟨hs b hb, rfl⟩) k _ _
  · exact RepC.flat k (by simpa using hs) _ _ hr

mutual
theorem RelV.ren {E E2 : Env} {f : Nat → Option Nat} (h : Ren E E2 f) : ∀ (a : AV) (v : Value), SubS E E2 (hasRows a) → RelV E a v → RelV E2 (a.ren f) v
  | .undef, _, _, _ => trivial
  | .skip, _, _, hv => hv
  | .data k d, v, hs, hv => by
    simp only [AV.ren]
    unfold RelV at hv ⊢
    split
    · rename_i hk; simp only [hk] at hv; obtain ⟨cs, e, hr⟩ := hv; exact ⟨cs, e, repC_sub h.w hs hr⟩
    · rename_i hk; simp only [hk] at hv; exact repC_sub h.w hs hv
  | .lit k l, v, hs, hv => by
    rcases hs with hs | hs
    · obtain ⟨A, e, hr⟩ := hv
      refine ⟨A, e, ?_⟩
      rw [h.w]
      exact hr.imp (fun b hb => ⟨hs b hb, rfl⟩) (RepC.mono (fun b hb => ⟨hs b hb, rfl⟩) k)
    · cases hs
  | .nilS _, _, _, hv => hv
  | .nilV _, _, _, hv => hv
  | .agg l, v, hs, hv => by obtain ⟨vs, e, hr⟩ := hv; exact ⟨vs, e, RelAll.ren h l _ hs hr⟩
  | .tuple l, v, hs, hv => by obtain ⟨vs, e, hr⟩ := hv; exact ⟨vs, e, RelAll.ren h l _ hs hr⟩
  | .ptr r off, v, hs, hv => by
    simp only [AV.ren]
    cases hf : f r with
    | none => trivial
    | some j =>
      obtain ⟨g, h1, h2⟩ := hv
      refine ⟨g, h1, fun cells hc => ?_⟩
      rw [h.H r j hf] at hc
      obtain ⟨root, hr, hrr⟩ := Option.map_eq_some_iff.1 hc
      cases root with
      | box c => rw [h.G r j hf]; exact h2 c hr
      | _ => simp [Root.ren] at hrr
  | .at k d, v, hs, hv => by
    rcases hs with hs | hs
    · obtain ⟨a, cs, e, hS, hr, hc⟩ := hv
      refine ⟨a, cs, e, hs _ hS, ?_, ?_⟩
      · rw [h.w]; exact hr.mono (fun b hb => ⟨hs b hb, rfl⟩) k _ _
      · rw [h.w]; exact hc
    · cases hs
  | .sl r ver p off len, v, hs, hv => by
    simp only [AV.ren]
    cases hf : f r with
    | none => trivial
    | some j => exact SlRel.ren h hf hv
  | .el r ver p i fs, v, hs, hv => by
    simp only [AV.ren]
    cases hf : f r with
    | none => trivial
    | some j => exact ElRel.ren h hf hv
  | .fn g caps, v, hs, hv => by obtain ⟨vs, e, hr⟩ := hv; exact ⟨vs, e, RelAll.ren h caps _ hs hr⟩
  | .mp r, v, hs, hv => by
    simp only [AV.ren]
    cases hf : f r with
    | none => trivial
    | some j =>
      obtain ⟨g, h1, h2⟩ := hv
      refine ⟨g, h1, fun kk kv es hc => ?_⟩
      rw [h.H r j hf] at hc
      obtain ⟨root, hr, hrr⟩ := Option.map_eq_some_iff.1 hc
      cases root with
      | mp a b c =>
        simp only [Root.ren, Root.mp.injEq] at hrr
        obtain ⟨rfl, rfl, hrr⟩ := hrr
        rw [h.G r j hf]; exact h2 _ _ _ hr
      | _ => simp [Root.ren] at hrr
  | .it r, v, hs, hv => by
    simp only [AV.ren]
    cases hf : f r with
    | none => trivial
    | some j =>
      obtain ⟨g, h1, h2⟩ := hv
      refine ⟨g, h1, fun s pos hc => ?_⟩
      rw [h.H r j hf] at hc
      obtain ⟨root, hr, hrr⟩ := Option.map_eq_some_iff.1 hc
      cases root with
      | it a b => rw [h.G r j hf]; exact h2 _ _ hr
      | _ => simp [Root.ren] at hrr
  | .iface t u, v, hs, hv => by obtain ⟨x, e, hr⟩ := hv; exact ⟨x, e, RelV.ren h u x hs hr⟩
termination_by structural a => a
theorem RelAll.ren {E E2 : Env} {f : Nat → Option Nat} (h : Ren E E2 f) : ∀ (l : List AV) (vs : List Value), SubS E E2 (hasRowsAll l) → RelAll E l vs → RelAll E2 (renAll f l) vs
  | [], _, _, hv => hv
  | a :: l, vs, hs, hv => by
    obtain ⟨v, vs', e, h1, h2⟩ := hv
    exact ⟨v, vs', e, RelV.ren h a v hs.left h1, RelAll.ren h l vs' hs.right h2⟩
termination_by structural l => l
end
theorem RelAll2.ren {E E2 : Env} {f : Nat → Option Nat} (h : Ren E E2 f) {l : List AV} {vs : List Value} (hs : SubS E E2 (hasRowsAll l)) (hv : All2 (RelV E) l vs) : All2 (RelV E2) (renAll f l) vs :=
  RelAll.iff.1 (RelAll.ren h l vs hs (RelAll.iff.2 hv))

theorem AbsT.flat {S S' : Nat → Prop} {w : World} (fl : Fl) : ∀ (k : K) (d : k.D) (ts : List T), fl.leafFlat k = true → AbsT S w fl k d ts → AbsT S' w fl k d ts := by
  induction fl with
  | no => exact fun k d ts hf ⟨vs, h, hr⟩ => ⟨vs, h, RepC.flat k hf _ _ hr⟩
  | row f ih =>
    intro k d ts hf h
    cases k with
    | slice k => obtain ⟨A, c, els, h, ha⟩ := h; exact ⟨A, c, els, h, ha.imp (fun _ _ _ hx => ih _ _ _ hf hx)⟩
    | _ => exact h.elim
  | pr a b iha ihb =>
    intro k d ts hf h
    cases k with
    | pair ka kb =>
      simp only [Fl.leafFlat, Bool.and_eq_true] at hf
      obtain ⟨t1, t2, h, h1, h2⟩ := h
      exact ⟨t1, t2, h, iha _ _ _ hf.1 h1, ihb _ _ _ hf.2 h2⟩
    | _ => exact h.elim
theorem absT_sub {E E2 : Env} (hw : E2.w = E.w) {fl : Fl} {k : K} (hs : SubS E E2 (!fl.leafFlat k)) {xs : List k.D} {els : List (List T)} (h : All2 (AbsT E.S E.w fl k) xs els) : All2 (AbsT E2.S E2.w fl k) xs els := by
  rw [hw]
  rcases hs with hs | hs
  · exact h.imp (fun _ _ _ h => h.mono (fun b hb => ⟨hs b hb, rfl⟩) fl k _ _)
  · exact h.imp (fun _ _ _ h => h.flat fl k _ _ (by simpa using hs))

theorem keyKind_flat {k : K} (h : keyKind k = true) : k.flatRows = true := by cases k <;> first | rfl | cases h

theorem RelRoot.ren {E E2 : Env} {f : Nat → Option Nat} (h : Ren E E2 f) {root : Root} {gr : GRoot} (hs : SubS E E2 root.rows) (hr : RelRoot E root gr) : RelRoot E2 (root.ren f) gr := by
  cases root with
  | box cells =>
    cases gr with
    | box g =>
      obtain ⟨vs, e, h1, h2⟩ := hr
      exact ⟨vs, e, by rw [h.w]; exact h1, RelAll2.ren h hs h2⟩
    | _ => exact hr.elim
  | arr fl k xs ver hole =>
    obtain ⟨_, _, _, rfl, _⟩ := hr.arr
    cases hole with
    | none => obtain ⟨A, c, els, e, h1, h2⟩ := hr; exact ⟨A, c, els, e, by rw [h.w]; exact h1, absT_sub h.w hs h2⟩
    | some q => obtain ⟨A, c, els, pq, h1, h2, h3, h4, h5⟩ := hr; exact ⟨A, c, els, pq, h1, h2, absT_sub h.w hs h3, h4, by rw [h.w]; exact h5⟩
  | frz k xs =>
    cases gr with
    | frz A c n' =>
      rcases hs with hs | hs
      · obtain ⟨h1, h2, h3⟩ := hr
        refine ⟨h1, h2, ?_⟩
        rw [h.w]
        exact h3.imp (fun b hb => ⟨hs b hb, rfl⟩) (RepC.mono (fun b hb => ⟨hs b hb, rfl⟩) k)
      · cases hs
    | _ => exact hr.elim
  | mp kk kv es =>
    cases gr with
    | mp g =>
      obtain ⟨h1, h2, ents, clock, h3, h4⟩ := hr
      refine ⟨h1, h2, ents, clock, by rw [h.w]; exact h3, h4.imp (fun e _ m he => ⟨?_, ?_⟩)⟩
      · exact RelV.ren h _ _ (.inr (by simp [hasRows, keyKind_flat h1])) he.1
      · exact RelV.ren h _ _ (.inr (by simp [hasRows, h2])) he.2
    | _ => exact hr.elim
  | it s pos =>
    cases gr with
    | it g =>
      show E2.w.heap[g]? = some (.stringIter s pos)
      rw [h.w]
      exact hr
    | _ => exact hr.elim

mutual
theorem ren_ids {f : Nat → Option Nat} : ∀ (a : AV) (q : Nat), q ∈ (a.ren f).ids → ∃ r ∈ a.ids, f r = some q
  | .undef, q, h => by cases h
  | .skip, q, h => by cases h
  | .data .., q, h => by cases h
  | .lit .., q, h => by cases h
  | .nilS _, q, h => by cases h
  | .nilV _, q, h => by cases h
  | .at .., q, h => by cases h
  | .agg l, q, h => renAll_ids l q h
  | .tuple l, q, h => renAll_ids l q h
  | .fn _ l, q, h => renAll_ids l q h
  | .iface _ u, q, h => ren_ids u q h
  | .ptr r o, q, h => by
    simp only [AV.ren] at h
    cases hf : f r with
    | none => simp [hf, AV.ids] at h
    | some j => simp [hf, AV.ids] at h; subst h; exact ⟨r, by simp [AV.ids], hf⟩
  | .sl r _ _ _ _, q, h => by
    simp only [AV.ren] at h
    cases hf : f r with
    | none => simp [hf, AV.ids] at h
    | some j => simp [hf, AV.ids] at h; subst h; exact ⟨r, by simp [AV.ids], hf⟩
  | .el r _ _ _ _, q, h => by
    simp only [AV.ren] at h
    cases hf : f r with
    | none => simp [hf, AV.ids] at h
    | some j => simp [hf, AV.ids] at h; subst h; exact ⟨r, by simp [AV.ids], hf⟩
  | .mp r, q, h => by
    simp only [AV.ren] at h
    cases hf : f r with
    | none => simp [hf, AV.ids] at h
    | some j => simp [hf, AV.ids] at h; subst h; exact ⟨r, by simp [AV.ids], hf⟩
  | .it r, q, h => by
    simp only [AV.ren] at h
    cases hf : f r with
    | none => simp [hf, AV.ids] at h
    | some j => simp [hf, AV.ids] at h; subst h; exact ⟨r, by simp [AV.ids], hf⟩
termination_by structural a => a
theorem renAll_ids {f : Nat → Option Nat} : ∀ (l : List AV) (q : Nat), q ∈ idsAll (renAll f l) → ∃ r ∈ idsAll l, f r = some q
  | [], q, h => by cases h
  | a :: l, q, h => by
    simp only [renAll, idsAll, List.mem_append] at h
    rcases h with h | h
    · obtain ⟨r, h1, h2⟩ := ren_ids a q h; exact ⟨r, by simp [idsAll, h1], h2⟩
    · obtain ⟨r, h1, h2⟩ := renAll_ids l q h; exact ⟨r, by simp [idsAll, h1], h2⟩
termination_by structural l => l
end
theorem rootRen_ids {f : Nat → Option Nat} (root : Root) (q : Nat) (h : q ∈ (root.ren f).ids) : ∃ r ∈ root.ids, f r = some q := by
  cases root with
  | box cells => exact renAll_ids cells q h
  | _ => cases h

/-- Under other names, all is as it should be. -/
theorem Ren.good {E E2 : Env} {n n2 : Nat → Prop} {f : Nat → Option Nat} (h : Ren E E2 f) (hg : Good E n) (hrows : ∀ r j root, f r = some j → E.H r = some root → SubS E E2 root.rows) (hinj : ∀ r r' j, f r = some j → f r' = some j → r = r')
    (hoff : ∀ j, (∃ r, f r = some j) ∨ (E2.H j = none ∧ E2.G j = none)) (hn2 : ∀ r j, f r = some j → n2 j)
    (hS : ∀ b, E2.S b ↔ (b < E2.w.heap.size ∧ ¬ Own E2.G b ∧ ¬ E2.F b)) (hF : ∀ b, E2.F b → b < E2.w.heap.size ∧ ¬ Own E2.G b) : Good E2 n2 := by
  have back : ∀ j gr, E2.G j = some gr → ∃ r, f r = some j ∧ E.G r = some gr := by
    intro j gr hgr
    rcases hoff j with ⟨r, hr⟩ | ⟨_, h2⟩
    · exact ⟨r, hr, by rw [← h.G r j hr]; exact hgr⟩
    · rw [h2] at hgr; cases hgr
  refine ⟨hS, fun j root hj => ?_, fun j hj => ?_, ?_, fun j j' gr gr' hne h1 h2 => ?_, fun j gr hgr => ?_, fun j root hj => ?_, hF⟩
  · rcases hoff j with ⟨r, hr⟩ | ⟨h1, _⟩
    · rw [h.H r j hr] at hj
      obtain ⟨root0, hr0, rfl⟩ := Option.map_eq_some_iff.1 hj
      obtain ⟨gr, hgr, hrel⟩ := hg.roots r root0 hr0
      exact ⟨gr, by rw [h.G r j hr]; exact hgr, hrel.ren h (hrows r j root0 hr hr0)⟩
    · rw [h1] at hj; cases hj
  · rcases hoff j with ⟨r, hr⟩ | ⟨_, h2⟩
    · rw [h.H r j hr] at hj
      rw [h.G r j hr]
      exact hg.none r (by simpa using hj)
    · exact h2
  · rintro b ⟨j, gr, hgr, hb⟩
    obtain ⟨r, _, hr⟩ := back j gr hgr
    rw [h.w]
    exact hg.lt b ⟨r, gr, hr, hb⟩
  · obtain ⟨r, hr, hgr⟩ := back j gr h1
    obtain ⟨r', hr', hgr'⟩ := back j' gr' h2
    exact hg.apart r r' gr gr' (fun e => hne (by subst e; rw [hr] at hr'; injection hr')) hgr hgr'
  · obtain ⟨r, _, hgr⟩ := back j gr hgr
    exact hg.nodup r gr hgr
  · rcases hoff j with ⟨r, hr⟩ | ⟨h1, _⟩
    · rw [h.H r j hr] at hj
      obtain ⟨root0, hr0, rfl⟩ := Option.map_eq_some_iff.1 hj
      refine ⟨hn2 r j hr, fun q hq => ?_⟩
      obtain ⟨r', _, hq'⟩ := rootRen_ids root0 q hq
      exact hn2 r' q hq'
    · rw [h1] at hj; cases hj

theorem ExtR.ren_l {f : Nat → Option Nat} {H H' : Option Root} {G G' : Option GRoot} (h : ExtR (H.map (Root.ren f)) H' G G') : ExtR H H' G G' := by
  cases H' with
  | none => trivial
  | some root' =>
    cases root' with
    | box c' =>
      obtain ⟨⟨c, hc⟩, hG⟩ := h
      obtain ⟨root, hr, hrr⟩ := Option.map_eq_some_iff.1 hc
      cases root with
      | box c0 => exact ⟨⟨c0, hr⟩, hG⟩
      | _ => simp [Root.ren] at hrr
    | mp kk kv es' =>
      obtain ⟨⟨c, hc⟩, hG⟩ := h
      obtain ⟨root, hr, hrr⟩ := Option.map_eq_some_iff.1 hc
      cases root with
      | mp a b c0 => simp only [Root.ren, Root.mp.injEq] at hrr; obtain ⟨rfl, rfl, _⟩ := hrr; exact ⟨⟨c0, hr⟩, hG⟩
      | _ => simp [Root.ren] at hrr
    | it s p =>
      obtain ⟨⟨c, d, hc⟩, hG⟩ := h
      obtain ⟨root, hr, hrr⟩ := Option.map_eq_some_iff.1 hc
      cases root with
      | it a b => exact ⟨⟨a, b, hr⟩, hG⟩
      | _ => simp [Root.ren] at hrr
    | arr fl' k xs' ver' hole' =>
      obtain ⟨fl, xs, ver, hole, t, t', hc, rest⟩ := h
      obtain ⟨root, hr, hrr⟩ := Option.map_eq_some_iff.1 hc
      cases root with
      | arr => simp only [Root.ren] at hrr; rw [hrr] at hr; exact ⟨fl, xs, ver, hole, t, t', hr, rest⟩
      | _ => simp [Root.ren] at hrr
    | frz k xs' =>
      rcases h with ⟨xs, hc, hG⟩ | ⟨fl, xs, ver, hole, A, c, els, hc, rest⟩
      · obtain ⟨root, hr, hrr⟩ := Option.map_eq_some_iff.1 hc
        cases root with
        | frz => simp only [Root.ren] at hrr; rw [hrr] at hr; exact .inl ⟨xs, hr, hG⟩
        | _ => simp [Root.ren] at hrr
      · obtain ⟨root, hr, hrr⟩ := Option.map_eq_some_iff.1 hc
        cases root with
        | arr => simp only [Root.ren] at hrr; rw [hrr] at hr; exact .inr ⟨fl, xs, ver, hole, A, c, els, hr, rest⟩
        | _ => simp [Root.ren] at hrr
theorem ExtR.ren_r {f : Nat → Option Nat} {H H' : Option Root} {G G' : Option GRoot} (h : ExtR H H' G G') : ExtR H (H'.map (Root.ren f)) G G' := by
  cases H' with
  | none => trivial
  | some root' => cases root' <;> exact h
end Go.Lite
end
