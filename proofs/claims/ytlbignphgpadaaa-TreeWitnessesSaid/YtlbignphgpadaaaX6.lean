/-
  TreeWitnesses: for every automaton the code's witness is the document's shape of fewest nodes, and the argument reads afterwards as before.
  Conditions: none beyond the statement's own.
-/
import Derived.Test.YtlbignphgpadaaaRows
import Derived.ProofKit
import Derived.Test.YtlbignphgpadaaaX5
set_option maxRecDepth 100000
namespace Go.Proofs.Ytlbignphgpadaaa
open Go Go.Lite Go.Lite.Fam Go.ChangeShapes Go.WideShapes Go.ChangeAt Go.RowKit

theorem Try.own : ownKnob Try.prog.godebug = none := by kernel_rfl
theorem Try.laidOut : laidOutB Try.prog = true := by kernel_rfl
theorem Try.mixed : Try.prog.follows .mixedOrders = true := by kernel_rfl
theorem Try.noCount : Try.prog.funcs.toList.all (fun fn => !(fn.name == "runtime.NumGoroutine")) = true := by kernel_rfl
theorem Try.phyp : PHyp Try.prog := ⟨Try.mixed, fun f fn h => by
  have := List.all_eq_true.1 Try.noCount fn (by rw [← Array.getElem?_toList] at h; exact List.mem_of_getElem? h)
  simpa using this⟩
theorem kinds4 : All2 (fun t k => kindOf Try.prog 12 t = some k ∧ k.solid = true) [26] [K_api_TreeAutomaton] := ⟨⟨by kernel_rfl, rfl⟩, trivial⟩

theorem one_comp {a : K} : ∀ cs : List Comp, cs.map (·.k) = [a] → ∃ x : a.D, cs = [⟨a, x⟩]
  | [], h => by cases h
  | _ :: _ :: _, h => by cases h
  | [⟨_, x⟩], h => by
    simp only [List.map_cons, List.map_nil, List.cons.injEq, and_true] at h
    subst h
    exact ⟨x, rfl⟩
theorem eval4 (cs : List Comp) (hk : cs.map (·.k) = [K_api_TreeAutomaton]) : ∃ n, evalFn (mkCx Try.prog (hintOf hints) (fun _ => none)) n 4 (cs.map fun c => AV.data c.k c.d) [] = some (AV.data .bool true, []) := by
  obtain ⟨x, rfl⟩ := one_comp cs hk
  exact lim_some.1 (law07_TreeWitnesses_ok (x0 := x) (TreeWitnesses_law x))

theorem treeWitnesses_lifted (os : Os) (started : os.Started) (H : Type) (enc : TypeId × Value → H) :
    ReturnsInHanded {} Try.checked os 4 .any (Rows.treeWitnessesSpec.pre6 enc Try.prog Try.f4 Rows.treeWitnessesRow.domain false) (Rows.treeWitnessesSpec.post enc Try.prog Try.f4 false true false false) := by
  refine returnsInHanded_of_change (C := Try.checked) Try.own started (by kernel_rfl) Try.func4
    (ChangeSpec.witness6 (enc := enc) (C := Try.checked) false ⟨#[], #[.agg #[.int .i64 0, .int .i64 0, .slice none 0 0, .slice none 0 0, .slice none 0 0]], []⟩ 8 (by kernel_rfl) (by kernel_rfl) (by kernel_rfl) (by kernel_rfl)) ?_
  intro W base args ds gs before hval0 hW hcnd _
  have hval : ∀ (j : Nat) t v, Try.f4.params[j]? = some t → args[j]? = some v → Value.okWide Try.prog W .any base t v := hval0
  have hW' := hW
  obtain ⟨p, q, hA0, hV, rfl, hfz, hnd⟩ := hW
  have hA : DataW.TrodAll enc Try.prog W 0 (fun _ => true) true Try.f4.params.toList args.toList ds p := hA0
  rw [Try.params4] at hA hval
  obtain ⟨rfl, rfl⟩ := trodVars_none hV
  clear hA0 hval0
  simp only [List.append_nil] at hW'
  have hcalls := law_calls Try.phyp kinds4 (fun cs hk _ => eval4 cs hk) hA (base := base) (fun j t v ht hv => hval j t v (by rw [← Array.getElem?_toList]; exact ht) (by rw [← Array.getElem?_toList]; exact hv))
  rw [Array.toArray_toList] at hcalls
  have hlt : ∀ x ∈ p, x.block < W.heap.size := fun x hx => by simpa using hW'.lt x hx
  refine hcalls.mono fun e W' ⟨he, hb⟩ => ?_
  subst he
  obtain ⟨v0, d0, rfl, rfl, h0⟩ := trodAll_one hA
  refine ⟨_, rfl, _, _, _, [], p, [], hW', trodAll_mk1 (shut_bool Try.underlying4 true), ?_, rfl, hb.frame _, fun h => nomatch h⟩
  exact trodAll_mk1 (Below.trod Try.laidOut (by kernel_rfl) (of_decide_eq_true (by kernel_rfl)) h0 hb (fun x hx => hlt x hx))

theorem treeWitnesses_holds : Rows.TreeWitnessesSaid :=
  OpenClaim.holds_of_wide 4 Try.f4 rfl rfl rfl rfl rfl rfl rfl ⟨rfl, rfl, rfl, rfl, rfl⟩ rfl rfl rfl rfl rfl (by kernel_rfl) Try.func4 (by kernel_rfl)
    (of_decide_eq_true (by kernel_rfl)) (by unfold Func.isWrapper; first | (rw [if_pos (by decide +kernel)]; kernel_rfl) | (rw [if_neg (by decide +kernel)]; exact ⟨rfl, rfl⟩))
    (fun os started H enc _ => treeWitnesses_lifted os started H enc)
end Go.Proofs.Ytlbignphgpadaaa
