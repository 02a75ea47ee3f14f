/-
  A part of the proof: FW_tree_grow, FW_tree_growth_write_v2, FW_tree_growth_write, FW_tree_Witness, FW_ref07_Fewest, FW_law07_TreeWitnesses, L84, PA, PB, PC, PD, PE.
-/
import Derived.Test.YtlbignphgpadaaaX4
section
set_option linter.unusedVariables false
set_option linter.unusedSimpArgs false
set_option maxRecDepth 100000
set_option maxHeartbeats 20000000
namespace Go.Lite.Fam
open Go Go.Lite Go.Proofs

def tree_grow_o3_7 (x0 : T_api_TreeAutomaton) (x3_0b : (List Int)) (x3_1b : (List Int)) : St := ⟨slotsOf [(1, .ptr 0 0), (2, .ptr 1 0), (3, .ptr 2 0)], heapFrom 0 [some (.box [.data (.int .i64) x0.1, .data (.int .i64) x0.2.1, .data (.slice (.int .i64)) x0.2.2.1, .data (.slice K_api_Leaf) x0.2.2.2.1, .data (.slice K_api_Branch) x0.2.2.2.2.1]), some (.box [.nilS 22, .nilS 22, .nilS 24]), some (.box [.sl 3 0 [] (0 : Int) x0.2.1, .sl 4 0 [] (0 : Int) x0.2.1, .sl 5 0 [] (0 : Int) x0.2.1]), some (.arr .no (.int .i64) x3_0b 0 none), some (.arr .no (.int .i64) x3_1b 0 none), some (.arr .no K_api_Branch (List.replicate x0.2.1.toNat (Z_api_Branch)) 0 none)], 6⟩
def tree_grow_s3 (x0 : T_api_TreeAutomaton) (x3_0 : (List Int)) (x3_1 : (List Int)) (x23 : Int) : St := ⟨slotsOf [(1, .ptr 0 0), (2, .ptr 1 0), (3, .ptr 2 0), (21, .data (.slice K_api_Leaf) x0.2.2.2.1), (22, .data (.int .i64) ((x0.2.2.2.1.length : Nat) : Int)), (23, .data (.int .i64) x23)], heapFrom 0 [some (.box [.data (.int .i64) x0.1, .data (.int .i64) x0.2.1, .data (.slice (.int .i64)) x0.2.2.1, .data (.slice K_api_Leaf) x0.2.2.2.1, .data (.slice K_api_Branch) x0.2.2.2.2.1]), some (.box [.nilS 22, .nilS 22, .nilS 24]), some (.box [.sl 3 0 [] (0 : Int) x0.2.1, .sl 4 0 [] (0 : Int) x0.2.1, .sl 5 0 [] (0 : Int) x0.2.1]), some (.arr .no (.int .i64) x3_0 0 none), some (.arr .no (.int .i64) x3_1 0 none), some (.arr .no K_api_Branch (List.replicate x0.2.1.toNat (Z_api_Branch)) 0 none)], 6⟩
def tree_grow_t13 (x0 : T_api_TreeAutomaton) (x3_0d : (List Int)) (x3_1d : (List Int)) (x3_2b : (List T_api_Branch)) (x6b : Bool) (x44 : Int) (x63 : Bool) : St := ⟨slotsOf [(1, .ptr 0 0), (2, .ptr 1 0), (3, .ptr 2 0), (6, .data .bool x6b), (8, .ptr 6 0), (42, .data (.slice K_api_Branch) x0.2.2.2.2.1), (43, .data (.int .i64) ((x0.2.2.2.2.1.length : Nat) : Int)), (44, .data (.int .i64) x44), (63, .data .bool x63)], heapFrom 0 [some (.box [.data (.int .i64) x0.1, .data (.int .i64) x0.2.1, .data (.slice (.int .i64)) x0.2.2.1, .data (.slice K_api_Leaf) x0.2.2.2.1, .data (.slice K_api_Branch) x0.2.2.2.2.1]), some (.box [.nilS 22, .nilS 22, .nilS 24]), some (.box [.sl 3 0 [] (0 : Int) x0.2.1, .sl 4 0 [] (0 : Int) x0.2.1, .sl 5 0 [] (0 : Int) x0.2.1]), some (.arr .no (.int .i64) x3_0d 0 none), some (.arr .no (.int .i64) x3_1d 0 none), some (.arr .no K_api_Branch x3_2b 0 none), some (.box [.data (.int .i64) ((x0.2.2.2.2.1.getD x44.toNat (Z_api_Branch)).1), .data (.int .i64) ((x0.2.2.2.2.1.getD x44.toNat (Z_api_Branch)).2.1), .data (.int .i64) ((x0.2.2.2.2.1.getD x44.toNat (Z_api_Branch)).2.2.1), .data (.int .i64) ((x0.2.2.2.2.1.getD x44.toNat (Z_api_Branch)).2.2.2.1)])], 7⟩
def tree_grow_t15 (x0 : T_api_TreeAutomaton) (x3_0d : (List Int)) (x3_1d : (List Int)) (x3_2b : (List T_api_Branch)) (x6b : Bool) (x44 : Int) (x95 : Bool) : St := ⟨slotsOf [(1, .ptr 0 0), (2, .ptr 1 0), (3, .ptr 2 0), (6, .data .bool x6b), (8, .ptr 6 0), (9, .data (.int .i64) (if (1099511627776 : Int) < (IntKind.i64.wrap ((IntKind.i64.wrap ((1 : Int) + (x3_0d.getD ((x0.2.2.2.2.1.getD x44.toNat (Z_api_Branch)).2.1).toNat (0 : Int)))) + (x3_0d.getD ((x0.2.2.2.2.1.getD x44.toNat (Z_api_Branch)).2.2.1).toNat (0 : Int)))) then (1099511627776 : Int) else (IntKind.i64.wrap ((IntKind.i64.wrap ((1 : Int) + (x3_0d.getD ((x0.2.2.2.2.1.getD x44.toNat (Z_api_Branch)).2.1).toNat (0 : Int)))) + (x3_0d.getD ((x0.2.2.2.2.1.getD x44.toNat (Z_api_Branch)).2.2.1).toNat (0 : Int)))))), (42, .data (.slice K_api_Branch) x0.2.2.2.2.1), (43, .data (.int .i64) ((x0.2.2.2.2.1.length : Nat) : Int)), (44, .data (.int .i64) x44), (95, .data .bool x95)], heapFrom 0 [some (.box [.data (.int .i64) x0.1, .data (.int .i64) x0.2.1, .data (.slice (.int .i64)) x0.2.2.1, .data (.slice K_api_Leaf) x0.2.2.2.1, .data (.slice K_api_Branch) x0.2.2.2.2.1]), some (.box [.nilS 22, .nilS 22, .nilS 24]), some (.box [.sl 3 0 [] (0 : Int) x0.2.1, .sl 4 0 [] (0 : Int) x0.2.1, .sl 5 0 [] (0 : Int) x0.2.1]), some (.arr .no (.int .i64) x3_0d 0 none), some (.arr .no (.int .i64) x3_1d 0 none), some (.arr .no K_api_Branch x3_2b 0 none), some (.box [.data (.int .i64) ((x0.2.2.2.2.1.getD x44.toNat (Z_api_Branch)).1), .data (.int .i64) ((x0.2.2.2.2.1.getD x44.toNat (Z_api_Branch)).2.1), .data (.int .i64) ((x0.2.2.2.2.1.getD x44.toNat (Z_api_Branch)).2.2.1), .data (.int .i64) ((x0.2.2.2.2.1.getD x44.toNat (Z_api_Branch)).2.2.2.1)])], 7⟩
def tree_grow_s18 (x0 : T_api_TreeAutomaton) (x44 : Int) (x3_0e : (List Int)) (x3_1e : (List Int)) (x3_2c : (List T_api_Branch)) (x6c : Bool) : St := ⟨slotsOf [(1, .ptr 0 0), (2, .ptr 1 0), (3, .ptr 2 0), (6, .data .bool x6c), (42, .data (.slice K_api_Branch) x0.2.2.2.2.1), (43, .data (.int .i64) ((x0.2.2.2.2.1.length : Nat) : Int)), (44, .data (.int .i64) x44)], heapFrom 0 [some (.box [.data (.int .i64) x0.1, .data (.int .i64) x0.2.1, .data (.slice (.int .i64)) x0.2.2.1, .data (.slice K_api_Leaf) x0.2.2.2.1, .data (.slice K_api_Branch) x0.2.2.2.2.1]), some (.box [.nilS 22, .nilS 22, .nilS 24]), some (.box [.sl 3 0 [] (0 : Int) x0.2.1, .sl 4 0 [] (0 : Int) x0.2.1, .sl 5 0 [] (0 : Int) x0.2.1]), some (.arr .no (.int .i64) x3_0e 0 none), some (.arr .no (.int .i64) x3_1e 0 none), some (.arr .no K_api_Branch x3_2c 0 none)], 6⟩
def tree_grow_o11_8 (x0 : T_api_TreeAutomaton) (x3_0f : (List Int)) (x3_1f : (List Int)) (x3_2d : (List T_api_Branch)) (x6d : Bool) : St := ⟨slotsOf [(1, .ptr 0 0), (2, .ptr 1 0), (3, .ptr 2 0), (6, .data .bool x6d)], heapFrom 0 [some (.box [.data (.int .i64) x0.1, .data (.int .i64) x0.2.1, .data (.slice (.int .i64)) x0.2.2.1, .data (.slice K_api_Leaf) x0.2.2.2.1, .data (.slice K_api_Branch) x0.2.2.2.2.1]), some (.box [.nilS 22, .nilS 22, .nilS 24]), some (.box [.sl 3 0 [] (0 : Int) x0.2.1, .sl 4 0 [] (0 : Int) x0.2.1, .sl 5 0 [] (0 : Int) x0.2.1]), some (.arr .no (.int .i64) x3_0f 0 none), some (.arr .no (.int .i64) x3_1f 0 none), some (.arr .no K_api_Branch x3_2d 0 none)], 6⟩
def tree_grow_s11 (x0 : T_api_TreeAutomaton) (x3_0d : (List Int)) (x3_1d : (List Int)) (x3_2b : (List T_api_Branch)) (x6b : Bool) (x44 : Int) : St := ⟨slotsOf [(1, .ptr 0 0), (2, .ptr 1 0), (3, .ptr 2 0), (6, .data .bool x6b), (42, .data (.slice K_api_Branch) x0.2.2.2.2.1), (43, .data (.int .i64) ((x0.2.2.2.2.1.length : Nat) : Int)), (44, .data (.int .i64) x44)], heapFrom 0 [some (.box [.data (.int .i64) x0.1, .data (.int .i64) x0.2.1, .data (.slice (.int .i64)) x0.2.2.1, .data (.slice K_api_Leaf) x0.2.2.2.1, .data (.slice K_api_Branch) x0.2.2.2.2.1]), some (.box [.nilS 22, .nilS 22, .nilS 24]), some (.box [.sl 3 0 [] (0 : Int) x0.2.1, .sl 4 0 [] (0 : Int) x0.2.1, .sl 5 0 [] (0 : Int) x0.2.1]), some (.arr .no (.int .i64) x3_0d 0 none), some (.arr .no (.int .i64) x3_1d 0 none), some (.arr .no K_api_Branch x3_2b 0 none)], 6⟩
def tree_grow_o8_19 (x0 : T_api_TreeAutomaton) (x3_0g : (List Int)) (x3_1g : (List Int)) (x3_2e : (List T_api_Branch)) : St := ⟨slotsOf [(2, .ptr 0 0), (3, .ptr 1 0)], heapFrom 0 [some (.box [.nilS 22, .nilS 22, .nilS 24]), some (.box [.sl 2 0 [] (0 : Int) x0.2.1, .sl 3 0 [] (0 : Int) x0.2.1, .sl 4 0 [] (0 : Int) x0.2.1]), some (.arr .no (.int .i64) x3_0g 0 none), some (.arr .no (.int .i64) x3_1g 0 none), some (.arr .no K_api_Branch x3_2e 0 none)], 5⟩
def tree_grow_s8 (x0 : T_api_TreeAutomaton) (x3_0c : (List Int)) (x3_1c : (List Int)) (x3_2 : (List T_api_Branch)) (x6 : Bool) : St := ⟨slotsOf [(1, .ptr 0 0), (2, .ptr 1 0), (3, .ptr 2 0), (6, .data .bool x6)], heapFrom 0 [some (.box [.data (.int .i64) x0.1, .data (.int .i64) x0.2.1, .data (.slice (.int .i64)) x0.2.2.1, .data (.slice K_api_Leaf) x0.2.2.2.1, .data (.slice K_api_Branch) x0.2.2.2.2.1]), some (.box [.nilS 22, .nilS 22, .nilS 24]), some (.box [.sl 3 0 [] (0 : Int) x0.2.1, .sl 4 0 [] (0 : Int) x0.2.1, .sl 5 0 [] (0 : Int) x0.2.1]), some (.arr .no (.int .i64) x3_0c 0 none), some (.arr .no (.int .i64) x3_1c 0 none), some (.arr .no K_api_Branch x3_2 0 none)], 6⟩
theorem tree_grow_ok {x0 : T_api_TreeAutomaton} {r : T_tree_growth} (hF : tree_grow x0 = some r) : evalLim cx 20 [.data K_api_TreeAutomaton x0] [] = some (.data K_tree_growth r, []) := by
  refine fnG (h := h20) fn20 rfl rfl rfl rfl ?_
  unfold tree_grow at hF
  refine wR rfl rfl ?_
  refine W (eBox rfl rfl) rfl ?_
  refine W (eAlloc zero50) rfl ?_
  refine wo_end ?_
  refine wX rfl rfl ?_
  refine tT (eFaP rfl (fieldAt ty26 rfl rfl ty3 rfl)) rfl rfl ?_
  refine tT (eLdP rfl rfl ty3 rfl rfl) rfl rfl ?_
  obtain ⟨g1, hF⟩ := gd_some hF
  refine tT (eMk rfl rfl (elemOf ty22 rfl ty3 rfl) rfl g1) rfl rfl ?_
  refine tT (eFaP rfl (fieldAt ty26 rfl rfl ty3 rfl)) rfl rfl ?_
  refine tT (eLdP rfl rfl ty3 rfl rfl) rfl rfl ?_
  refine tT (eMk rfl rfl (elemOf ty22 rfl ty3 rfl) rfl g1) rfl rfl ?_
  refine tT (eFaP rfl (fieldAt ty26 rfl rfl ty3 rfl)) rfl rfl ?_
  refine tT (eLdP rfl rfl ty3 rfl rfl) rfl rfl ?_
  obtain ⟨g2, hF⟩ := gd_some hF
  refine tT (eMk rfl rfl (elemOf ty24 rfl ty58 rfl) rfl g2) rfl rfl ?_
  refine tT (eBld rfl (buildS ty50 zero50 rfl pl50 rfl rfl)) rfl rfl ?_
  refine tT (eAlloc zero50) rfl rfl ?_
  refine tT (eStP rfl rfl rfl rfl ty50 rfl rfl) rfl rfl ?_
  refine wt_end (And.intro (by kernel_rfl) ?_)
  refine wp_seq ?_
  refine wR rfl rfl ?_
  refine W (eFaP rfl (fieldAt ty26 rfl rfl ty23 rfl)) rfl ?_
  refine W (eLdP rfl rfl ty23 rfl rfl) rfl ?_
  refine W (eLen rfl rfl (lenD (isSliceOf ty23 rfl))) rfl ?_
  refine W (eMove rfl rfl) rfl ?_
  refine wo_end ?_
  refine wp_block ?_
  obtain ⟨e292, h293, hF⟩ := bind_some hF
  refine wLoop (Rel := fun (x : (List Int) × (List Int) × Int) s => cutAt h20 h20.pre 3 s = some (tree_grow_s3 x0 x.1 x.2.1 x.2.2)) (QE := fun (e : (List Int) × (List Int)) ex s => match e with | (x3_0b, x3_1b) => ex = .exit 0 ∧ cutAt h20 h20.pre 7 s = some (tree_grow_o3_7 x0 x3_0b x3_1b)) (fun x o294 s hF hs => ?_) h293 (by show _ = _; kernel_rfl) (fun ex s hq => ?_)
  · obtain ⟨x3_0, x3_1, x23⟩ := x
    unfold tree_grow_l3 at hF
    refine wR hs rfl ?_
    refine W (eBin rfl rfl rfl) rfl ?_
    refine wo_end ?_
    refine wp_seq ?_
    refine wIf hF rfl (fun c6 hF => ?_) (fun c6 hF => ?_)
    · refine wp_skip ?_
      refine wp_seq ?_
      refine wp_block ?_
      refine wR rfl rfl ?_
      obtain ⟨g7, hF⟩ := gd_some hF
      refine W (eIxD rfl rfl (kindOfTy ty23 rfl) g7) rfl ?_
      refine W (eLdA rfl (kindOfTy ty56 rfl)) rfl ?_
      refine W (eAlloc zero56) rfl ?_
      refine W (eStP rfl rfl rfl rfl ty56 rfl rfl) rfl ?_
      refine wo_end ?_
      refine wX1 rfl rfl ?_
      refine tT (eFaP rfl (fieldAt ty50 rfl rfl ty22 rfl)) rfl rfl ?_
      refine tT (eLdP rfl rfl ty22 rfl rfl) rfl rfl ?_
      refine tT (eFaP rfl (fieldAt ty56 rfl rfl ty3 rfl)) rfl rfl ?_
      refine tT (eLdP rfl rfl ty3 rfl rfl) rfl rfl ?_
      refine tT (eFaP rfl (fieldAt ty50 rfl rfl ty22 rfl)) rfl rfl ?_
      refine tT (eLdP rfl rfl ty22 rfl rfl) rfl rfl ?_
      refine tT (eFaP rfl (fieldAt ty56 rfl rfl ty3 rfl)) rfl rfl ?_
      refine tT (eLdP rfl rfl ty3 rfl rfl) rfl rfl ?_
      refine tT (eFaP rfl (fieldAt ty56 rfl rfl ty3 rfl)) rfl rfl ?_
      refine tT (eLdP rfl rfl ty3 rfl rfl) rfl rfl ?_
      obtain ⟨g8, hF⟩ := gd_some hF
      refine tT (eIxS rfl rfl rfl (kindOfTy ty22 rfl) g8) rfl rfl ?_
      refine tT (eStE rfl rfl rfl rfl rfl (kindOfTy ty3 rfl) rfl absD rfl rfl) rfl rfl ?_
      refine tT (eIxS rfl rfl rfl (kindOfTy ty22 rfl) g8) rfl rfl ?_
      refine tT (eStE rfl rfl rfl rfl rfl (kindOfTy ty3 rfl) rfl absD rfl rfl) rfl rfl ?_
      refine wt_end (And.intro (pkC (by kernel_rfl) (pkC (by kernel_rfl) (pkC (by kernel_rfl) (pkC (by kernel_rfl) (pkC (by kernel_rfl) (pkC (roC (by kernel_rfl) (roC (by kernel_rfl) (roC (by kernel_rfl) (roC (by kernel_rfl) (roC (by kernel_rfl) (roW (by kernel_rfl) (by kernel_rfl) (by kernel_rfl) (by kernel_rfl) (eLdP rfl rfl ty22 rfl rfl) (by kernel_rfl))))))) (pkC (by kernel_rfl) (pkC (roC (by kernel_rfl) (roC (by kernel_rfl) (roC (by kernel_rfl) (roW (by kernel_rfl) (by kernel_rfl) (by kernel_rfl) (by kernel_rfl) (eLdP rfl rfl ty3 rfl rfl) (by kernel_rfl))))) (pkC (by kernel_rfl) (pkC (roC (by kernel_rfl) (roW (by kernel_rfl) (by kernel_rfl) (by kernel_rfl) (by kernel_rfl) (eLdP rfl rfl ty3 rfl rfl) (by kernel_rfl))) (pkC (by kernel_rfl) (pkC (by kernel_rfl) (pkC (by kernel_rfl) (pkC (by kernel_rfl) pkN)))))))))))))) ?_)
      refine wR1 rfl rfl ?_
      refine W (eBin rfl rfl rfl) rfl ?_
      refine W (eMove rfl rfl) rfl ?_
      refine wo_end ?_
      cases hF; exact And.intro rfl (by show _ = _; kernel_rfl)
    · refine wp_exit ?_
      cases hF; exact And.intro (fun h => nomatch h) (And.intro rfl (by show _ = _; kernel_rfl))
  · obtain ⟨x3_0b, x3_1b⟩ := e292
    obtain ⟨rfl, hs⟩ := hq
    refine wp_seq ?_
    refine wR hs rfl ?_
    refine W (eAsg rfl rfl) rfl ?_
    refine wo_end ?_
    refine wp_block ?_
    obtain ⟨e295, h296, hF⟩ := bind_some hF
    refine wLoop (Rel := fun (x : (List Int) × (List Int) × (List T_api_Branch) × Bool) s => cutAt h20 h20.pre 8 s = some (tree_grow_s8 x0 x.1 x.2.1 x.2.2.1 x.2.2.2)) (QE := fun (e : (List Int) × (List Int) × (List T_api_Branch)) ex s => match e with | (x3_0g, x3_1g, x3_2e) => ex = .exit 2 ∧ cutAt h20 h20.pre 19 s = some (tree_grow_o8_19 x0 x3_0g x3_1g x3_2e)) (fun x o297 s hF hs => ?_) h296 (by show _ = _; kernel_rfl) (fun ex s hq => ?_)
    · obtain ⟨x3_0c, x3_1c, x3_2, x6⟩ := x
      unfold tree_grow_l8 at hF
      refine wp_seq ?_
      refine wR hs rfl ?_
      refine W (eMove rfl rfl) rfl ?_
      refine wo_end ?_
      refine wIf hF rfl (fun c33 hF => ?_) (fun c33 hF => ?_)
      · refine wp_skip ?_
        refine wp_block ?_
        refine wR rfl rfl ?_
        refine W (eAsg rfl rfl) rfl ?_
        refine wo_end ?_
        refine wR rfl rfl ?_
        refine W (eFaP rfl (fieldAt ty26 rfl rfl ty24 rfl)) rfl ?_
        refine W (eLdP rfl rfl ty24 rfl rfl) rfl ?_
        refine W (eLen rfl rfl (lenD (isSliceOf ty24 rfl))) rfl ?_
        refine W (eMove rfl rfl) rfl ?_
        refine wo_end ?_
        refine wp_block ?_
        obtain ⟨e298, h299, hF⟩ := bind_some hF
        refine wLoop (Rel := fun (x : (List Int) × (List Int) × (List T_api_Branch) × Bool × Int) s => cutAt h20 h20.pre 11 s = some (tree_grow_s11 x0 x.1 x.2.1 x.2.2.1 x.2.2.2.1 x.2.2.2.2)) (QE := fun (e : (List Int) × (List Int) × (List T_api_Branch) × Bool) ex s => match e with | (x3_0f, x3_1f, x3_2d, x6d) => ex = .exit 4 ∧ cutAt h20 h20.pre 8 s = some (tree_grow_o11_8 x0 x3_0f x3_1f x3_2d x6d)) (fun x o300 s hF hs => ?_) h299 (by show _ = _; kernel_rfl) (fun ex s hq => ?_)
        · obtain ⟨x3_0d, x3_1d, x3_2b, x6b, x44⟩ := x
          unfold tree_grow_l11 at hF
          refine wR hs rfl ?_
          refine W (eBin rfl rfl rfl) rfl ?_
          refine wo_end ?_
          refine wp_seq ?_
          refine wIf hF rfl (fun c46 hF => ?_) (fun c46 hF => ?_)
          · refine wp_skip ?_
            refine wp_part (fun s => ∃ x3_0e x3_1e x3_2c x6c, tree_grow_j18 x0 x44 x3_0e x3_1e x3_2c x6c = some o300 ∧ cutAt h20 h20.pre 18 s = some (tree_grow_s18 x0 x44 x3_0e x3_1e x3_2c x6c)) ?_ ?_
            · refine wp_block ?_
              refine wR rfl rfl ?_
              obtain ⟨g47, hF⟩ := gd_some hF
              refine W (eIxD rfl rfl (kindOfTy ty24 rfl) g47) rfl ?_
              refine W (eLdA rfl (kindOfTy ty58 rfl)) rfl ?_
              refine W (eAlloc zero58) rfl ?_
              refine W (eStP rfl rfl rfl rfl ty58 rfl rfl) rfl ?_
              refine wo_end ?_
              refine wp_seq ?_
              refine wRq (M := fun s => ∃ x63, tree_grow_q13 x0 x3_0d x3_1d x3_2b x6b x44 x63 = some o300 ∧ s = tree_grow_t13 x0 x3_0d x3_1d x3_2b x6b x44 x63) rfl ?_ ?_
              · refine W (eFaP rfl (fieldAt ty50 rfl rfl ty22 rfl)) rfl ?_
                refine W (eLdP rfl rfl ty22 rfl rfl) rfl ?_
                refine W (eFaP rfl (fieldAt ty58 rfl rfl ty3 rfl)) rfl ?_
                refine W (eLdP rfl rfl ty3 rfl rfl) rfl ?_
                obtain ⟨g48, hF⟩ := gd_some hF
                refine W (eIxS rfl rfl rfl (kindOfTy ty22 rfl) g48) rfl ?_
                refine W (eLdE rfl rfl rfl (kindOfTy ty3 rfl) rfl) rfl ?_
                refine W (eBin rfl rfl rfl) rfl ?_
                refine W (eMove rfl rfl) rfl ?_
                refine ifT hF (fun c49 hF => ?_) (fun c49 hF => ?_)
                · refine Wn rfl rfl c49 rfl ?_
                  refine Wn rfl rfl c49 rfl ?_
                  refine Wn rfl rfl c49 rfl ?_
                  refine Wn rfl rfl c49 rfl ?_
                  refine Wn rfl rfl c49 rfl ?_
                  refine Wn rfl rfl c49 rfl ?_
                  refine Wn rfl rfl c49 rfl ?_
                  refine W (ePickT rfl c49 rfl) rfl ?_
                  refine wo_end ?_
                  exact ⟨tree_grow_t13 x0 x3_0d x3_1d x3_2b x6b x44 true, by kernel_rfl, true, hF, rfl⟩
                · refine Wy rfl rfl c49 (eFaP rfl (fieldAt ty50 rfl rfl ty22 rfl)) rfl ?_
                  refine Wy rfl rfl c49 (eLdP rfl rfl ty22 rfl rfl) rfl ?_
                  refine Wy rfl rfl c49 (eFaP rfl (fieldAt ty58 rfl rfl ty3 rfl)) rfl ?_
                  refine Wy rfl rfl c49 (eLdP rfl rfl ty3 rfl rfl) rfl ?_
                  obtain ⟨g50, hF⟩ := gd_some hF
                  refine Wy rfl rfl c49 (eIxS rfl rfl rfl (kindOfTy ty22 rfl) g50) rfl ?_
                  refine Wy rfl rfl c49 (eLdE rfl rfl rfl (kindOfTy ty3 rfl) rfl) rfl ?_
                  refine Wy rfl rfl c49 (eBin rfl rfl rfl) rfl ?_
                  refine W (ePickF rfl c49 rfl) rfl ?_
                  refine wo_end ?_
                  exact ⟨tree_grow_t13 x0 x3_0d x3_1d x3_2b x6b x44 ((x3_0d.getD ((x0.2.2.2.2.1.getD x44.toNat (Z_api_Branch)).2.2.1).toNat (0 : Int)) == (0 : Int)), by kernel_rfl, ((x3_0d.getD ((x0.2.2.2.2.1.getD x44.toNat (Z_api_Branch)).2.2.1).toNat (0 : Int)) == (0 : Int)), hF, rfl⟩
              · rintro s ⟨x63, hF, rfl⟩
                unfold tree_grow_q13 at hF
                refine wIf hF rfl (fun c51 hF => ?_) (fun c51 hF => ?_)
                · refine wp_exit ?_
                  exact ⟨x3_0d, x3_1d, x3_2b, x6b, hF, by kernel_rfl⟩
                · refine wp_skip ?_
                  refine wD rfl rfl rfl rfl ?_
                  refine W (eFaP rfl (fieldAt ty50 rfl rfl ty22 rfl)) rfl ?_
                  refine W (eLdP rfl rfl ty22 rfl rfl) rfl ?_
                  refine W (eFaP rfl (fieldAt ty58 rfl rfl ty3 rfl)) rfl ?_
                  refine W (eLdP rfl rfl ty3 rfl rfl) rfl ?_
                  obtain ⟨g52, hF⟩ := gd_some hF
                  refine W (eIxS rfl rfl rfl (kindOfTy ty22 rfl) g52) rfl ?_
                  refine W (eLdE rfl rfl rfl (kindOfTy ty3 rfl) rfl) rfl ?_
                  refine W (eBin rfl rfl rfl) rfl ?_
                  refine W (eFaP rfl (fieldAt ty50 rfl rfl ty22 rfl)) rfl ?_
                  refine W (eLdP rfl rfl ty22 rfl rfl) rfl ?_
                  refine W (eFaP rfl (fieldAt ty58 rfl rfl ty3 rfl)) rfl ?_
                  refine W (eLdP rfl rfl ty3 rfl rfl) rfl ?_
                  obtain ⟨g53, hF⟩ := gd_some hF
                  refine W (eIxS rfl rfl rfl (kindOfTy ty22 rfl) g53) rfl ?_
                  refine W (eLdE rfl rfl rfl (kindOfTy ty3 rfl) rfl) rfl ?_
                  refine W (eBin rfl rfl rfl) rfl ?_
                  refine W (eMin rfl rfl) rfl ?_
                  refine W (eAsg rfl rfl) rfl ?_
                  refine wo_end ?_
                  refine wRq (M := fun s => ∃ x95, tree_grow_q15 x0 x3_0d x3_1d x3_2b x6b x44 x95 = some o300 ∧ s = tree_grow_t15 x0 x3_0d x3_1d x3_2b x6b x44 x95) rfl ?_ ?_
                  · refine W (eFaP rfl (fieldAt ty50 rfl rfl ty22 rfl)) rfl ?_
                    refine W (eLdP rfl rfl ty22 rfl rfl) rfl ?_
                    refine W (eFaP rfl (fieldAt ty58 rfl rfl ty3 rfl)) rfl ?_
                    refine W (eLdP rfl rfl ty3 rfl rfl) rfl ?_
                    obtain ⟨g54, hF⟩ := gd_some hF
                    refine W (eIxS rfl rfl rfl (kindOfTy ty22 rfl) g54) rfl ?_
                    refine W (eLdE rfl rfl rfl (kindOfTy ty3 rfl) rfl) rfl ?_
                    refine W (eBin rfl rfl rfl) rfl ?_
                    refine W (eMove rfl rfl) rfl ?_
                    refine ifT hF (fun c55 hF => ?_) (fun c55 hF => ?_)
                    · refine Wn rfl rfl c55 rfl ?_
                      refine Wn rfl rfl c55 rfl ?_
                      refine Wn rfl rfl c55 rfl ?_
                      refine Wn rfl rfl c55 rfl ?_
                      refine Wn rfl rfl c55 rfl ?_
                      refine Wn rfl rfl c55 rfl ?_
                      refine Wn rfl rfl c55 rfl ?_
                      refine Wn rfl rfl c55 rfl ?_
                      refine W (ePickT rfl c55 rfl) rfl ?_
                      refine wo_end ?_
                      exact ⟨tree_grow_t15 x0 x3_0d x3_1d x3_2b x6b x44 true, by kernel_rfl, true, hF, rfl⟩
                    · refine Wy rfl rfl c55 (eMove rfl rfl) rfl ?_
                      refine Wy rfl rfl c55 (eFaP rfl (fieldAt ty50 rfl rfl ty22 rfl)) rfl ?_
                      refine Wy rfl rfl c55 (eLdP rfl rfl ty22 rfl rfl) rfl ?_
                      refine Wy rfl rfl c55 (eFaP rfl (fieldAt ty58 rfl rfl ty3 rfl)) rfl ?_
                      refine Wy rfl rfl c55 (eLdP rfl rfl ty3 rfl rfl) rfl ?_
                      refine Wy rfl rfl c55 (eIxS rfl rfl rfl (kindOfTy ty22 rfl) g54) rfl ?_
                      refine Wy rfl rfl c55 (eLdE rfl rfl rfl (kindOfTy ty3 rfl) rfl) rfl ?_
                      refine Wy rfl rfl c55 (eBin rfl rfl rfl) rfl ?_
                      refine W (ePickF rfl c55 rfl) rfl ?_
                      refine wo_end ?_
                      exact ⟨tree_grow_t15 x0 x3_0d x3_1d x3_2b x6b x44 (decide ((if (1099511627776 : Int) < (IntKind.i64.wrap ((IntKind.i64.wrap ((1 : Int) + (x3_0d.getD ((x0.2.2.2.2.1.getD x44.toNat (Z_api_Branch)).2.1).toNat (0 : Int)))) + (x3_0d.getD ((x0.2.2.2.2.1.getD x44.toNat (Z_api_Branch)).2.2.1).toNat (0 : Int)))) then (1099511627776 : Int) else (IntKind.i64.wrap ((IntKind.i64.wrap ((1 : Int) + (x3_0d.getD ((x0.2.2.2.2.1.getD x44.toNat (Z_api_Branch)).2.1).toNat (0 : Int)))) + (x3_0d.getD ((x0.2.2.2.2.1.getD x44.toNat (Z_api_Branch)).2.2.1).toNat (0 : Int))))) < (x3_0d.getD ((x0.2.2.2.2.1.getD x44.toNat (Z_api_Branch)).2.2.2.1).toNat (0 : Int)))), by kernel_rfl, (decide ((if (1099511627776 : Int) < (IntKind.i64.wrap ((IntKind.i64.wrap ((1 : Int) + (x3_0d.getD ((x0.2.2.2.2.1.getD x44.toNat (Z_api_Branch)).2.1).toNat (0 : Int)))) + (x3_0d.getD ((x0.2.2.2.2.1.getD x44.toNat (Z_api_Branch)).2.2.1).toNat (0 : Int)))) then (1099511627776 : Int) else (IntKind.i64.wrap ((IntKind.i64.wrap ((1 : Int) + (x3_0d.getD ((x0.2.2.2.2.1.getD x44.toNat (Z_api_Branch)).2.1).toNat (0 : Int)))) + (x3_0d.getD ((x0.2.2.2.2.1.getD x44.toNat (Z_api_Branch)).2.2.1).toNat (0 : Int))))) < (x3_0d.getD ((x0.2.2.2.2.1.getD x44.toNat (Z_api_Branch)).2.2.2.1).toNat (0 : Int)))), hF, rfl⟩
                  · rintro s ⟨x95, hF, rfl⟩
                    unfold tree_grow_q15 at hF
                    refine wIf hF rfl (fun c56 hF => ?_) (fun c56 hF => ?_)
                    · refine wX rfl rfl ?_
                      refine tT (eFaP rfl (fieldAt ty50 rfl rfl ty22 rfl)) rfl rfl ?_
                      refine tT (eLdP rfl rfl ty22 rfl rfl) rfl rfl ?_
                      refine tT (eFaP rfl (fieldAt ty58 rfl rfl ty3 rfl)) rfl rfl ?_
                      refine tT (eLdP rfl rfl ty3 rfl rfl) rfl rfl ?_
                      refine tT (eFaP rfl (fieldAt ty50 rfl rfl ty22 rfl)) rfl rfl ?_
                      refine tT (eLdP rfl rfl ty22 rfl rfl) rfl rfl ?_
                      refine tT (eFaP rfl (fieldAt ty58 rfl rfl ty3 rfl)) rfl rfl ?_
                      refine tT (eLdP rfl rfl ty3 rfl rfl) rfl rfl ?_
                      refine tT (eFaP rfl (fieldAt ty50 rfl rfl ty24 rfl)) rfl rfl ?_
                      refine tT (eLdP rfl rfl ty24 rfl rfl) rfl rfl ?_
                      refine tT (eFaP rfl (fieldAt ty58 rfl rfl ty3 rfl)) rfl rfl ?_
                      refine tT (eLdP rfl rfl ty3 rfl rfl) rfl rfl ?_
                      refine tT (eMove rfl rfl) rfl rfl ?_
                      refine tT (eLdP rfl rfl ty58 rfl rfl) rfl rfl ?_
                      obtain ⟨g57, hF⟩ := gd_some hF
                      refine tT (eIxS rfl rfl rfl (kindOfTy ty22 rfl) g57) rfl rfl ?_
                      refine tT (eStE rfl rfl rfl rfl rfl (kindOfTy ty3 rfl) rfl absD rfl rfl) rfl rfl ?_
                      refine tT (eIxS rfl rfl rfl (kindOfTy ty22 rfl) g57) rfl rfl ?_
                      refine tT (eStE rfl rfl rfl rfl rfl (kindOfTy ty3 rfl) rfl absD rfl rfl) rfl rfl ?_
                      refine tT (eIxS rfl rfl rfl (kindOfTy ty24 rfl) g57) rfl rfl ?_
                      refine tT (eStE rfl rfl rfl rfl rfl (kindOfTy ty58 rfl) rfl absD rfl rfl) rfl rfl ?_
                      refine wt_end (And.intro (pkC (by kernel_rfl) (pkC (by kernel_rfl) (pkC (by kernel_rfl) (pkC (by kernel_rfl) (pkC (by kernel_rfl) (pkC (roC (by kernel_rfl) (roC (by kernel_rfl) (roC (by kernel_rfl) (roC (by kernel_rfl) (roC (by kernel_rfl) (roC (by kernel_rfl) (roC (by kernel_rfl) (roC (by kernel_rfl) (roC (by kernel_rfl) (roW (by kernel_rfl) (by kernel_rfl) (by kernel_rfl) (by kernel_rfl) (eLdP rfl rfl ty22 rfl rfl) (by kernel_rfl))))))))))) (pkC (by kernel_rfl) (pkC (roC (by kernel_rfl) (roC (by kernel_rfl) (roC (by kernel_rfl) (roC (by kernel_rfl) (roC (by kernel_rfl) (roC (by kernel_rfl) (roC (by kernel_rfl) (roW (by kernel_rfl) (by kernel_rfl) (by kernel_rfl) (by kernel_rfl) (eLdP rfl rfl ty3 rfl rfl) (by kernel_rfl))))))))) (pkC (by kernel_rfl) (pkC (roC (by kernel_rfl) (roC (by kernel_rfl) (roC (by kernel_rfl) (roC (by kernel_rfl) (roC (by kernel_rfl) (roW (by kernel_rfl) (by kernel_rfl) (by kernel_rfl) (by kernel_rfl) (eLdP rfl rfl ty24 rfl rfl) (roC (by kernel_rfl) (roW (by kernel_rfl) (by kernel_rfl) (by kernel_rfl) (by kernel_rfl) (eLdP rfl rfl ty24 rfl rfl) (by kernel_rfl))))))))) (pkC (by kernel_rfl) (pkC (roC (by kernel_rfl) (roC (by kernel_rfl) (roC (by kernel_rfl) (roW (by kernel_rfl) (by kernel_rfl) (by kernel_rfl) (by kernel_rfl) (eLdP rfl rfl ty3 rfl rfl) (roC (by kernel_rfl) (roW (by kernel_rfl) (by kernel_rfl) (by kernel_rfl) (by kernel_rfl) (eLdP rfl rfl ty3 rfl rfl) (by kernel_rfl))))))) (pkC (by kernel_rfl) (pkC (roC (by kernel_rfl) (roW (by kernel_rfl) (by kernel_rfl) (by kernel_rfl) (by kernel_rfl) (eLdP rfl rfl ty58 rfl rfl) (roC (by kernel_rfl) (roW (by kernel_rfl) (by kernel_rfl) (by kernel_rfl) (by kernel_rfl) (eLdP rfl rfl ty58 rfl rfl) (by kernel_rfl))))) (pkC (by kernel_rfl) (pkC (by kernel_rfl) (pkC (by kernel_rfl) (pkC (by kernel_rfl) (pkC (by kernel_rfl) (pkC (by kernel_rfl) pkN)))))))))))))))))))) ?_)
                      refine wR1 rfl rfl ?_
                      refine W (eAsg rfl rfl) rfl ?_
                      refine wo_end ?_
                      exact ⟨(x3_0d.set ((x0.2.2.2.2.1.getD x44.toNat (Z_api_Branch)).2.2.2.1).toNat (if (1099511627776 : Int) < (IntKind.i64.wrap ((IntKind.i64.wrap ((1 : Int) + (x3_0d.getD ((x0.2.2.2.2.1.getD x44.toNat (Z_api_Branch)).2.1).toNat (0 : Int)))) + (x3_0d.getD ((x0.2.2.2.2.1.getD x44.toNat (Z_api_Branch)).2.2.1).toNat (0 : Int)))) then (1099511627776 : Int) else (IntKind.i64.wrap ((IntKind.i64.wrap ((1 : Int) + (x3_0d.getD ((x0.2.2.2.2.1.getD x44.toNat (Z_api_Branch)).2.1).toNat (0 : Int)))) + (x3_0d.getD ((x0.2.2.2.2.1.getD x44.toNat (Z_api_Branch)).2.2.1).toNat (0 : Int)))))), (x3_1d.set ((x0.2.2.2.2.1.getD x44.toNat (Z_api_Branch)).2.2.2.1).toNat (-1 : Int)), (x3_2b.set ((x0.2.2.2.2.1.getD x44.toNat (Z_api_Branch)).2.2.2.1).toNat (x0.2.2.2.2.1.getD x44.toNat (Z_api_Branch))), true, hF, by kernel_rfl⟩
                    · refine wp_skip ?_
                      exact ⟨x3_0d, x3_1d, x3_2b, x6b, hF, by kernel_rfl⟩
            · rintro s ⟨x3_0e, x3_1e, x3_2c, x6c, hF, hs⟩
              unfold tree_grow_j18 at hF
              refine wR1 hs rfl ?_
              refine W (eBin rfl rfl rfl) rfl ?_
              refine W (eMove rfl rfl) rfl ?_
              refine wo_end ?_
              cases hF; exact And.intro rfl (by show _ = _; kernel_rfl)
          · refine wp_exit ?_
            cases hF; exact And.intro (fun h => nomatch h) (And.intro rfl (by show _ = _; kernel_rfl))
        · obtain ⟨x3_0f, x3_1f, x3_2d, x6d⟩ := e298
          obtain ⟨rfl, hs⟩ := hq
          cases hF; exact And.intro rfl hs
      · refine wp_exit ?_
        cases hF; exact And.intro (fun h => nomatch h) (And.intro rfl (by show _ = _; kernel_rfl))
    · obtain ⟨x3_0g, x3_1g, x3_2e⟩ := e295
      obtain ⟨rfl, hs⟩ := hq
      refine wR hs rfl ?_
      refine W (eLdP rfl rfl ty50 rfl rfl) rfl ?_
      refine W (eStP rfl rfl rfl rfl ty50 rfl rfl) rfl ?_
      refine wo_end ?_
      refine wp_ret ?_
      cases hF; exact (And.intro (.inr rfl) (finG rfl rfl (mapC (resC rfl rfl ty50 rfl rfl) mapN) (fvD rfl ty50 rfl (dGm (k := K_tree_growth) (dd := ((x3_0g.take x0.2.1.toNat), (x3_1g.take x0.2.1.toNat), (x3_2e.take x0.2.1.toNat), ())) rfl (mlC (lendS (contS (k := (.int .i64)) (r := 2) (xs := x3_0g) rfl)) (mlC (lendS (contS (k := (.int .i64)) (r := 3) (xs := x3_1g) rfl)) (mlC (lendS (contS (k := K_api_Branch) (r := 4) (xs := x3_2e) rfl)) mlN))) (by kernel_rfl)) fvN) (by kernel_rfl)))

end Go.Lite.Fam
end

section
set_option linter.unusedVariables false
set_option linter.unusedSimpArgs false
set_option maxRecDepth 100000
set_option maxHeartbeats 20000000
namespace Go.Lite.Fam
open Go Go.Lite Go.Proofs

theorem tree_growth_write_v2_ok {n : Nat} : ∀ {x0 : T_tree_growth} {x1 : Int} {x2 : (List Int)} {x3 : (List Int)} {r : (List Int) × (List Int)} (hF : tree_growth_write_v2 n x0 x1 x2 x3 = some r), evalLim cx 21 [.data K_tree_growth x0, .data (.int .i64) x1, .sl 0 0 [] (0 : Int) ((x2.length : Nat) : Int), .sl 1 0 [] (0 : Int) ((x3.length : Nat) : Int)] [(.arr .no (.int .i64) x2 0 none), (.arr .no (.int .i64) x3 0 none)] = some (.tuple [.sl 2 0 [] (0 : Int) ((r.1.length : Nat) : Int), .sl 3 0 [] (0 : Int) ((r.2.length : Nat) : Int)], [none, none, some (.arr .no (.int .i64) r.1 0 none), some (.arr .no (.int .i64) r.2 0 none)]) := by
  induction n with
  | zero => intro x0 x1 x2 x3 r hF; exact nomatch (show (none : Option ((List Int) × (List Int))) = some r from hF)
  | succ n ih =>
    intro x0 x1 x2 x3 r hF
    have hF : tree_growth_write_v2_b (tree_growth_write_v2 n) x0 x1 x2 x3 = some r := hF
    refine fnG (h := h21) fn21 rfl rfl rfl rfl ?_
    unfold tree_growth_write_v2_b at hF
    refine wR rfl rfl ?_
    refine W (eBox rfl rfl) rfl ?_
    refine W (eNilA rfl ty22 rfl (nilPlain rfl)) rfl ?_
    refine W (eNilA rfl ty22 rfl (nilPlain rfl)) rfl ?_
    refine wo_end ?_
    refine wp_seq ?_
    refine wR rfl rfl ?_
    refine W (eFaP rfl (fieldAt ty50 rfl rfl ty22 rfl)) rfl ?_
    refine W (eLdP rfl rfl ty22 rfl rfl) rfl ?_
    refine W (eMove rfl rfl) rfl ?_
    obtain ⟨g1, hF⟩ := gd_some hF
    refine W (eIxD rfl rfl (kindOfTy ty22 rfl) g1) rfl ?_
    refine W (eLdA rfl (kindOfTy ty3 rfl)) rfl ?_
    refine W (eBin rfl rfl rfl) rfl ?_
    refine wo_end ?_
    refine wIf hF rfl (fun c2 hF => ?_) (fun c2 hF => ?_)
    · refine wX rfl rfl ?_
      refine tT (eMove rfl rfl) rfl rfl ?_
      refine tT (eLit rfl (elemOf ty22 rfl ty3 rfl) rfl rfl (absC absD absN)) rfl rfl ?_
      obtain ⟨g3, hF⟩ := gd_some hF
      refine tT (eApp rfl rfl ty22 rfl (appF (elemOf ty22 rfl ty3 rfl) rfl (addC (fun _ h => nomatch h) contL) rfl g3)) rfl rfl ?_
      refine tT (eMove rfl rfl) rfl rfl ?_
      refine tT (eFaP rfl (fieldAt ty50 rfl rfl ty22 rfl)) rfl rfl ?_
      refine tT (eLdP rfl rfl ty22 rfl rfl) rfl rfl ?_
      refine tT (eMove rfl rfl) rfl rfl ?_
      refine tT (eIxD rfl rfl (kindOfTy ty22 rfl) g1) rfl rfl ?_
      refine tT (eLdA rfl (kindOfTy ty3 rfl)) rfl rfl ?_
      refine tT (eLit rfl (elemOf ty22 rfl ty3 rfl) rfl rfl (absC absD absN)) rfl rfl ?_
      obtain ⟨g4, hF⟩ := gd_some hF
      refine tT (eApp rfl rfl ty22 rfl (appF (elemOf ty22 rfl ty3 rfl) rfl (addC (fun _ h => nomatch h) contL) rfl g4)) rfl rfl ?_
      refine tT (eAsg rfl rfl) rfl rfl ?_
      refine tT (eAsg rfl rfl) rfl rfl ?_
      refine wt_end (And.intro (pkC (by kernel_rfl) (pkC (by kernel_rfl) (pkC (roC (by kernel_rfl) (roC (by kernel_rfl) (roR (by kernel_rfl) (by kernel_rfl) (by kernel_rfl) (by kernel_rfl) (by kernel_rfl) (eLdP rfl rfl ty22 rfl rfl) (roC (by kernel_rfl) (roR (by kernel_rfl) (by kernel_rfl) (by kernel_rfl) (by kernel_rfl) (by kernel_rfl) (eIxD rfl rfl (kindOfTy ty22 rfl) g1) (roR (by kernel_rfl) (by kernel_rfl) (by kernel_rfl) (by kernel_rfl) (by kernel_rfl) (eLdA rfl (kindOfTy ty3 rfl)) (by kernel_rfl))))))) (pkC (by kernel_rfl) (pkC (by kernel_rfl) (pkC (by kernel_rfl) (pkC (by kernel_rfl) (pkC (by kernel_rfl) (pkC (by kernel_rfl) (pkC (by kernel_rfl) (pkC (by kernel_rfl) (pkC (by kernel_rfl) (pkC (by kernel_rfl) pkN))))))))))))) ?_)
      refine wp_ret ?_
      cases hF; exact (And.intro (.inr rfl) (finG rfl rfl (mapC rfl (mapC rfl mapN)) (fvK rfl (fvK rfl fvN)) (by kernel_rfl)))
    · refine wp_skip ?_
      refine wR rfl rfl ?_
      refine W (eFaP rfl (fieldAt ty50 rfl rfl ty24 rfl)) rfl ?_
      refine W (eLdP rfl rfl ty24 rfl rfl) rfl ?_
      refine W (eMove rfl rfl) rfl ?_
      obtain ⟨g5, hF⟩ := gd_some hF
      refine W (eIxD rfl rfl (kindOfTy ty24 rfl) g5) rfl ?_
      refine W (eLdA rfl (kindOfTy ty58 rfl)) rfl ?_
      refine W (eAlloc zero58) rfl ?_
      refine W (eStP rfl rfl rfl rfl ty58 rfl rfl) rfl ?_
      refine wo_end ?_
      refine wX rfl rfl ?_
      refine tT (eMove rfl rfl) rfl rfl ?_
      refine tT (eLit rfl (elemOf ty22 rfl ty3 rfl) rfl rfl (absC absD absN)) rfl rfl ?_
      obtain ⟨g6, hF⟩ := gd_some hF
      refine tT (eApp rfl rfl ty22 rfl (appF (elemOf ty22 rfl ty3 rfl) rfl (addC (fun _ h => nomatch h) contL) rfl g6)) rfl rfl ?_
      refine tT (eMove rfl rfl) rfl rfl ?_
      refine tT (eFaP rfl (fieldAt ty58 rfl rfl ty3 rfl)) rfl rfl ?_
      refine tT (eLdP rfl rfl ty3 rfl rfl) rfl rfl ?_
      refine tT (eLit rfl (elemOf ty22 rfl ty3 rfl) rfl rfl (absC absD absN)) rfl rfl ?_
      obtain ⟨g7, hF⟩ := gd_some hF
      refine tT (eApp rfl rfl ty22 rfl (appF (elemOf ty22 rfl ty3 rfl) rfl (addC (fun _ h => nomatch h) contL) rfl g7)) rfl rfl ?_
      refine tT (eAsg rfl rfl) rfl rfl ?_
      refine tT (eAsg rfl rfl) rfl rfl ?_
      refine wt_end (And.intro (pkC (by kernel_rfl) (pkC (by kernel_rfl) (pkC (roC (by kernel_rfl) (roC (by kernel_rfl) (roR (by kernel_rfl) (by kernel_rfl) (by kernel_rfl) (by kernel_rfl) (by kernel_rfl) (eLdP rfl rfl ty3 rfl rfl) (by kernel_rfl)))) (pkC (by kernel_rfl) (pkC (by kernel_rfl) (pkC (by kernel_rfl) (pkC (by kernel_rfl) (pkC (by kernel_rfl) (pkC (by kernel_rfl) (pkC (by kernel_rfl) pkN)))))))))) ?_)
      refine wR rfl rfl ?_
      refine W (eLdP rfl rfl ty50 rfl rfl) rfl ?_
      refine W (eFaP rfl (fieldAt ty58 rfl rfl ty3 rfl)) rfl ?_
      refine W (eLdP rfl rfl ty3 rfl rfl) rfl ?_
      refine W (eMove rfl rfl) rfl ?_
      refine W (eMove rfl rfl) rfl ?_
      obtain ⟨r250, e8, hF⟩ := bind_some hF
      refine W (eCall rfl rfl (callH (ids := [146, 186]) (roots := [(.arr .no (.int .i64) (x2 ++ [(2 : Int)]) 0 none), (.arr .no (.int .i64) (x3 ++ [(x0.2.2.1.getD x1.toNat (Z_api_Branch)).1]) 0 none)]) (v := .tuple [.sl 250 0 [] (0 : Int) ((r250.1.length : Nat) : Int), .sl 251 0 [] (0 : Int) ((r250.2.length : Nat) : Int)]) (us := [(146, none), (186, none), (250, some (.arr .no (.int .i64) r250.1 0 none)), (251, some (.arr .no (.int .i64) r250.2 0 none))]) fn21 rfl rfl (hoD rfl ty50 rfl dD (hoD rfl ty3 rfl dD (hoO rfl (hoO rfl hoN)))) (by kernel_rfl) (by kernel_rfl) (by kernel_rfl) (by kernel_rfl) (by kernel_rfl) (ih e8) (by kernel_rfl) (by kernel_rfl) (fun _ => by kernel_rfl))) rfl ?_
      refine W (eMove rfl rfl) rfl ?_
      refine W (eExt rfl rfl) rfl ?_
      refine W (eExt rfl rfl) rfl ?_
      refine W (eAsg rfl rfl) rfl ?_
      refine W (eAsg rfl rfl) rfl ?_
      refine wo_end ?_
      refine wR rfl rfl ?_
      refine W (eLdP rfl rfl ty50 rfl rfl) rfl ?_
      refine W (eFaP rfl (fieldAt ty58 rfl rfl ty3 rfl)) rfl ?_
      refine W (eLdP rfl rfl ty3 rfl rfl) rfl ?_
      refine W (eMove rfl rfl) rfl ?_
      refine W (eMove rfl rfl) rfl ?_
      obtain ⟨r338, e9, hF⟩ := bind_some hF
      refine W (eCall rfl rfl (callH (ids := [250, 251]) (roots := [(.arr .no (.int .i64) r250.1 0 none), (.arr .no (.int .i64) r250.2 0 none)]) (v := .tuple [.sl 338 0 [] (0 : Int) ((r338.1.length : Nat) : Int), .sl 339 0 [] (0 : Int) ((r338.2.length : Nat) : Int)]) (us := [(250, none), (251, none), (338, some (.arr .no (.int .i64) r338.1 0 none)), (339, some (.arr .no (.int .i64) r338.2 0 none))]) fn21 rfl rfl (hoD rfl ty50 rfl dD (hoD rfl ty3 rfl dD (hoO rfl (hoO rfl hoN)))) (by kernel_rfl) (by kernel_rfl) (by kernel_rfl) (by kernel_rfl) (by kernel_rfl) (ih e9) (by kernel_rfl) (by kernel_rfl) (fun _ => by kernel_rfl))) rfl ?_
      refine W (eExt rfl rfl) rfl ?_
      refine W (eExt rfl rfl) rfl ?_
      refine W (eAsg rfl rfl) rfl ?_
      refine W (eAsg rfl rfl) rfl ?_
      refine wo_end ?_
      refine wp_ret ?_
      cases hF; exact (And.intro (.inr rfl) (finG rfl rfl (mapC rfl (mapC rfl mapN)) (fvK rfl (fvK rfl fvN)) (by kernel_rfl)))

end Go.Lite.Fam
end

section
set_option linter.unusedVariables false
set_option linter.unusedSimpArgs false
set_option maxRecDepth 100000
set_option maxHeartbeats 20000000
namespace Go.Lite.Fam
open Go Go.Lite Go.Proofs

theorem tree_growth_write_ok {x0 : T_tree_growth} {x1 : Int} {r : (List Int) × (List Int)} (hF : tree_growth_write x0 x1 = some r) : evalLim cx 21 [.data K_tree_growth x0, .data (.int .i64) x1, .nilS 0, .nilS 0] [] = some (.tuple [.sl 0 0 [] (0 : Int) ((r.1.length : Nat) : Int), .sl 1 0 [] (0 : Int) ((r.2.length : Nat) : Int)], [some (.arr .no (.int .i64) r.1 0 none), some (.arr .no (.int .i64) r.2 0 none)]) := by
  refine fnG (h := h21) fn21 rfl rfl rfl rfl ?_
  unfold tree_growth_write at hF
  refine wR rfl rfl ?_
  refine W (eBox rfl rfl) rfl ?_
  refine W (eNilA rfl ty22 rfl (nilPlain rfl)) rfl ?_
  refine W (eNilA rfl ty22 rfl (nilPlain rfl)) rfl ?_
  refine wo_end ?_
  refine wp_seq ?_
  refine wR rfl rfl ?_
  refine W (eFaP rfl (fieldAt ty50 rfl rfl ty22 rfl)) rfl ?_
  refine W (eLdP rfl rfl ty22 rfl rfl) rfl ?_
  refine W (eMove rfl rfl) rfl ?_
  obtain ⟨g1, hF⟩ := gd_some hF
  refine W (eIxD rfl rfl (kindOfTy ty22 rfl) g1) rfl ?_
  refine W (eLdA rfl (kindOfTy ty3 rfl)) rfl ?_
  refine W (eBin rfl rfl rfl) rfl ?_
  refine wo_end ?_
  refine wIf hF rfl (fun c2 hF => ?_) (fun c2 hF => ?_)
  · refine wX rfl rfl ?_
    refine tT (eNil rfl ty22 rfl (nilPlain rfl)) rfl rfl ?_
    refine tT (eLit rfl (elemOf ty22 rfl ty3 rfl) rfl rfl (absC absD absN)) rfl rfl ?_
    refine tT (eApp rfl rfl ty22 rfl (appN (elemOf ty22 rfl ty3 rfl) rfl (addC (fun _ h => nomatch h) contL) ⟨Nat.le_of_ble_eq_true rfl, Nat.le_of_ble_eq_true rfl⟩)) rfl rfl ?_
    refine tT (eNil rfl ty22 rfl (nilPlain rfl)) rfl rfl ?_
    refine tT (eFaP rfl (fieldAt ty50 rfl rfl ty22 rfl)) rfl rfl ?_
    refine tT (eLdP rfl rfl ty22 rfl rfl) rfl rfl ?_
    refine tT (eMove rfl rfl) rfl rfl ?_
    refine tT (eIxD rfl rfl (kindOfTy ty22 rfl) g1) rfl rfl ?_
    refine tT (eLdA rfl (kindOfTy ty3 rfl)) rfl rfl ?_
    refine tT (eLit rfl (elemOf ty22 rfl ty3 rfl) rfl rfl (absC absD absN)) rfl rfl ?_
    refine tT (eApp rfl rfl ty22 rfl (appN (elemOf ty22 rfl ty3 rfl) rfl (addC (fun _ h => nomatch h) contL) ⟨Nat.le_of_ble_eq_true rfl, Nat.le_of_ble_eq_true rfl⟩)) rfl rfl ?_
    refine tT (eAsg rfl rfl) rfl rfl ?_
    refine tT (eAsg rfl rfl) rfl rfl ?_
    refine wt_end (And.intro (pkC (by kernel_rfl) (pkC (by kernel_rfl) (pkC (roC (by kernel_rfl) (roC (by kernel_rfl) (roR (by kernel_rfl) (by kernel_rfl) (by kernel_rfl) (by kernel_rfl) (by kernel_rfl) (eLdP rfl rfl ty22 rfl rfl) (roC (by kernel_rfl) (roR (by kernel_rfl) (by kernel_rfl) (by kernel_rfl) (by kernel_rfl) (by kernel_rfl) (eIxD rfl rfl (kindOfTy ty22 rfl) g1) (roR (by kernel_rfl) (by kernel_rfl) (by kernel_rfl) (by kernel_rfl) (by kernel_rfl) (eLdA rfl (kindOfTy ty3 rfl)) (by kernel_rfl))))))) (pkC (by kernel_rfl) (pkC (by kernel_rfl) (pkC (by kernel_rfl) (pkC (by kernel_rfl) (pkC (by kernel_rfl) (pkC (by kernel_rfl) (pkC (by kernel_rfl) (pkC (by kernel_rfl) (pkC (by kernel_rfl) (pkC (by kernel_rfl) pkN))))))))))))) ?_)
    refine wp_ret ?_
    cases hF; exact (And.intro (.inr rfl) (finG rfl rfl (mapC rfl (mapC rfl mapN)) (fvK rfl (fvK rfl fvN)) (by kernel_rfl)))
  · refine wp_skip ?_
    refine wR rfl rfl ?_
    refine W (eFaP rfl (fieldAt ty50 rfl rfl ty24 rfl)) rfl ?_
    refine W (eLdP rfl rfl ty24 rfl rfl) rfl ?_
    refine W (eMove rfl rfl) rfl ?_
    obtain ⟨g3, hF⟩ := gd_some hF
    refine W (eIxD rfl rfl (kindOfTy ty24 rfl) g3) rfl ?_
    refine W (eLdA rfl (kindOfTy ty58 rfl)) rfl ?_
    refine W (eAlloc zero58) rfl ?_
    refine W (eStP rfl rfl rfl rfl ty58 rfl rfl) rfl ?_
    refine wo_end ?_
    refine wX rfl rfl ?_
    refine tT (eNil rfl ty22 rfl (nilPlain rfl)) rfl rfl ?_
    refine tT (eLit rfl (elemOf ty22 rfl ty3 rfl) rfl rfl (absC absD absN)) rfl rfl ?_
    refine tT (eApp rfl rfl ty22 rfl (appN (elemOf ty22 rfl ty3 rfl) rfl (addC (fun _ h => nomatch h) contL) ⟨Nat.le_of_ble_eq_true rfl, Nat.le_of_ble_eq_true rfl⟩)) rfl rfl ?_
    refine tT (eNil rfl ty22 rfl (nilPlain rfl)) rfl rfl ?_
    refine tT (eFaP rfl (fieldAt ty58 rfl rfl ty3 rfl)) rfl rfl ?_
    refine tT (eLdP rfl rfl ty3 rfl rfl) rfl rfl ?_
    refine tT (eLit rfl (elemOf ty22 rfl ty3 rfl) rfl rfl (absC absD absN)) rfl rfl ?_
    refine tT (eApp rfl rfl ty22 rfl (appN (elemOf ty22 rfl ty3 rfl) rfl (addC (fun _ h => nomatch h) contL) ⟨Nat.le_of_ble_eq_true rfl, Nat.le_of_ble_eq_true rfl⟩)) rfl rfl ?_
    refine tT (eAsg rfl rfl) rfl rfl ?_
    refine tT (eAsg rfl rfl) rfl rfl ?_
    refine wt_end (And.intro (pkC (by kernel_rfl) (pkC (by kernel_rfl) (pkC (roC (by kernel_rfl) (roC (by kernel_rfl) (roR (by kernel_rfl) (by kernel_rfl) (by kernel_rfl) (by kernel_rfl) (by kernel_rfl) (eLdP rfl rfl ty3 rfl rfl) (by kernel_rfl)))) (pkC (by kernel_rfl) (pkC (by kernel_rfl) (pkC (by kernel_rfl) (pkC (by kernel_rfl) (pkC (by kernel_rfl) (pkC (by kernel_rfl) (pkC (by kernel_rfl) pkN)))))))))) ?_)
    refine wR rfl rfl ?_
    refine W (eLdP rfl rfl ty50 rfl rfl) rfl ?_
    refine W (eFaP rfl (fieldAt ty58 rfl rfl ty3 rfl)) rfl ?_
    refine W (eLdP rfl rfl ty3 rfl rfl) rfl ?_
    refine W (eMove rfl rfl) rfl ?_
    refine W (eMove rfl rfl) rfl ?_
    obtain ⟨r248, e4, hF⟩ := bind_some hF
    obtain ⟨n, e4⟩ := limP_some e4
    refine W (eCall rfl rfl (callH (ids := [144, 184]) (roots := [(.arr .no (.int .i64) [(2 : Int)] 0 none), (.arr .no (.int .i64) [(x0.2.2.1.getD x1.toNat (Z_api_Branch)).1] 0 none)]) (v := .tuple [.sl 248 0 [] (0 : Int) ((r248.1.length : Nat) : Int), .sl 249 0 [] (0 : Int) ((r248.2.length : Nat) : Int)]) (us := [(144, none), (184, none), (248, some (.arr .no (.int .i64) r248.1 0 none)), (249, some (.arr .no (.int .i64) r248.2 0 none))]) fn21 rfl rfl (hoD rfl ty50 rfl dD (hoD rfl ty3 rfl dD (hoO rfl (hoO rfl hoN)))) (by kernel_rfl) (by kernel_rfl) (by kernel_rfl) (by kernel_rfl) (by kernel_rfl) (tree_growth_write_v2_ok e4) (by kernel_rfl) (by kernel_rfl) (fun _ => by kernel_rfl))) rfl ?_
    refine W (eMove rfl rfl) rfl ?_
    refine W (eExt rfl rfl) rfl ?_
    refine W (eExt rfl rfl) rfl ?_
    refine W (eAsg rfl rfl) rfl ?_
    refine W (eAsg rfl rfl) rfl ?_
    refine wo_end ?_
    refine wR rfl rfl ?_
    refine W (eLdP rfl rfl ty50 rfl rfl) rfl ?_
    refine W (eFaP rfl (fieldAt ty58 rfl rfl ty3 rfl)) rfl ?_
    refine W (eLdP rfl rfl ty3 rfl rfl) rfl ?_
    refine W (eMove rfl rfl) rfl ?_
    refine W (eMove rfl rfl) rfl ?_
    obtain ⟨r336, e5, hF⟩ := bind_some hF
    obtain ⟨n, e5⟩ := limP_some e5
    refine W (eCall rfl rfl (callH (ids := [248, 249]) (roots := [(.arr .no (.int .i64) r248.1 0 none), (.arr .no (.int .i64) r248.2 0 none)]) (v := .tuple [.sl 336 0 [] (0 : Int) ((r336.1.length : Nat) : Int), .sl 337 0 [] (0 : Int) ((r336.2.length : Nat) : Int)]) (us := [(248, none), (249, none), (336, some (.arr .no (.int .i64) r336.1 0 none)), (337, some (.arr .no (.int .i64) r336.2 0 none))]) fn21 rfl rfl (hoD rfl ty50 rfl dD (hoD rfl ty3 rfl dD (hoO rfl (hoO rfl hoN)))) (by kernel_rfl) (by kernel_rfl) (by kernel_rfl) (by kernel_rfl) (by kernel_rfl) (tree_growth_write_v2_ok e5) (by kernel_rfl) (by kernel_rfl) (fun _ => by kernel_rfl))) rfl ?_
    refine W (eExt rfl rfl) rfl ?_
    refine W (eExt rfl rfl) rfl ?_
    refine W (eAsg rfl rfl) rfl ?_
    refine W (eAsg rfl rfl) rfl ?_
    refine wo_end ?_
    refine wp_ret ?_
    cases hF; exact (And.intro (.inr rfl) (finG rfl rfl (mapC rfl (mapC rfl mapN)) (fvK rfl (fvK rfl fvN)) (by kernel_rfl)))

end Go.Lite.Fam
end

section
set_option linter.unusedVariables false
set_option linter.unusedSimpArgs false
set_option maxRecDepth 100000
set_option maxHeartbeats 20000000
namespace Go.Lite.Fam
open Go Go.Lite Go.Proofs

def tree_Witness_t9 (x0 : T_api_TreeAutomaton) (r88 : T_tree_growth) (x8 : Int) (x21 : Int) (x47 : Bool) : St := ⟨slotsOf [(7, .ptr 0 0), (8, .data (.int .i64) x8), (10, .data (.int .i64) (x0.2.2.1.getD x21.toNat (0 : Int))), (19, .data (.slice (.int .i64)) x0.2.2.1), (20, .data (.int .i64) ((x0.2.2.1.length : Nat) : Int)), (21, .data (.int .i64) x21), (47, .data .bool x47)], heapFrom 0 [some (.box [.data (.slice (.int .i64)) r88.1, .data (.slice (.int .i64)) r88.2.1, .data (.slice K_api_Branch) r88.2.2.1])], 1⟩
def tree_Witness_s11 (x0 : T_api_TreeAutomaton) (r88 : T_tree_growth) (x21 : Int) (x8b : Int) : St := ⟨slotsOf [(7, .ptr 0 0), (8, .data (.int .i64) x8b), (19, .data (.slice (.int .i64)) x0.2.2.1), (20, .data (.int .i64) ((x0.2.2.1.length : Nat) : Int)), (21, .data (.int .i64) x21)], heapFrom 0 [some (.box [.data (.slice (.int .i64)) r88.1, .data (.slice (.int .i64)) r88.2.1, .data (.slice K_api_Branch) r88.2.2.1])], 1⟩
def tree_Witness_o7_12 (r88 : T_tree_growth) (x8c : Int) : St := ⟨slotsOf [(7, .ptr 0 0), (8, .data (.int .i64) x8c)], heapFrom 0 [some (.box [.data (.slice (.int .i64)) r88.1, .data (.slice (.int .i64)) r88.2.1, .data (.slice K_api_Branch) r88.2.2.1])], 1⟩
def tree_Witness_s7 (x0 : T_api_TreeAutomaton) (r88 : T_tree_growth) (x8 : Int) (x21 : Int) : St := ⟨slotsOf [(7, .ptr 0 0), (8, .data (.int .i64) x8), (19, .data (.slice (.int .i64)) x0.2.2.1), (20, .data (.int .i64) ((x0.2.2.1.length : Nat) : Int)), (21, .data (.int .i64) x21)], heapFrom 0 [some (.box [.data (.slice (.int .i64)) r88.1, .data (.slice (.int .i64)) r88.2.1, .data (.slice K_api_Branch) r88.2.2.1])], 1⟩
theorem tree_Witness_ok {x0 : T_api_TreeAutomaton} {r : (List Int) × (List Int) × Bool × Int} (hF : tree_Witness x0 = some r) : evalLim cx 10 [.data K_api_TreeAutomaton x0] [] = some (.tuple [.data (.slice (.int .i64)) r.1, .data (.slice (.int .i64)) r.2.1, .data .bool r.2.2.1, .data (.int .i64) r.2.2.2], []) := by
  refine fnG (h := h10) fn10 rfl rfl rfl rfl ?_
  unfold tree_Witness at hF
  refine wR rfl rfl ?_
  refine W (eBox rfl rfl) rfl ?_
  refine W (eNilA rfl ty22 rfl (nilPlain rfl)) rfl ?_
  refine W (eNilA rfl ty22 rfl (nilPlain rfl)) rfl ?_
  refine W (eAsg rfl rfl) rfl ?_
  refine W (eAsg rfl rfl) rfl ?_
  refine wo_end ?_
  refine wp_seq ?_
  refine wR rfl rfl ?_
  refine W (eLdP rfl rfl ty26 rfl rfl) rfl ?_
  obtain ⟨r48, e1, hF⟩ := bind_some hF
  refine W (eCall rfl rfl (callS fn15 rfl rfl (hoD rfl ty26 rfl dD hoN) rfl rfl (tree_Validate_ok e1))) rfl ?_
  refine W (eAsg rfl rfl) rfl ?_
  refine wo_end ?_
  refine wR rfl rfl ?_
  refine W (eMove rfl rfl) rfl ?_
  refine W (eBin rfl rfl rfl) rfl ?_
  refine wo_end ?_
  refine wIf hF rfl (fun c2 hF => ?_) (fun c2 hF => ?_)
  · refine wR rfl rfl ?_
    refine W (eMove rfl rfl) rfl ?_
    refine W (eNilA rfl ty22 rfl (nilPlain rfl)) rfl ?_
    refine W (eNilA rfl ty22 rfl (nilPlain rfl)) rfl ?_
    refine W (eAsg rfl rfl) rfl ?_
    refine W (eAsg rfl rfl) rfl ?_
    refine wo_end ?_
    refine wp_ret ?_
    cases hF; exact (And.intro (.inr rfl) (finG rfl rfl (mapC rfl (mapC rfl (mapC rfl (mapC rfl mapN)))) (fvD rfl ty22 rfl dN (fvD rfl ty22 rfl dN (fvD rfl ty4 rfl dD (fvD rfl ty32 rfl dD fvN)))) (by kernel_rfl)))
  · refine wp_skip ?_
    refine wR rfl rfl ?_
    refine W (eLdP rfl rfl ty26 rfl rfl) rfl ?_
    obtain ⟨r88, e3, hF⟩ := bind_some hF
    refine W (eCall rfl rfl (callS fn20 rfl rfl (hoD rfl ty26 rfl dD hoN) rfl rfl (tree_grow_ok e3))) rfl ?_
    refine W (eAlloc zero50) rfl ?_
    refine W (eStP rfl rfl rfl rfl ty50 rfl rfl) rfl ?_
    refine wo_end ?_
    refine wR rfl rfl ?_
    refine W (eAsg rfl rfl) rfl ?_
    refine wo_end ?_
    refine wp_seq ?_
    refine wR rfl rfl ?_
    refine W (eFaP rfl (fieldAt ty26 rfl rfl ty22 rfl)) rfl ?_
    refine W (eLdP rfl rfl ty22 rfl rfl) rfl ?_
    refine W (eLen rfl rfl (lenD (isSliceOf ty22 rfl))) rfl ?_
    refine W (eMove rfl rfl) rfl ?_
    refine wo_end ?_
    refine wp_block ?_
    obtain ⟨e100, h101, hF⟩ := bind_some hF
    refine wLoop (Rel := fun (x : Int × Int) s => cutAt h10 h10.pre 7 s = some (tree_Witness_s7 x0 r88 x.1 x.2)) (QE := fun (e : Int) ex s => match e with | x8c => ex = .exit 0 ∧ cutAt h10 h10.pre 12 s = some (tree_Witness_o7_12 r88 x8c)) (fun x o102 s hF hs => ?_) h101 (by show _ = _; kernel_rfl) (fun ex s hq => ?_)
    · obtain ⟨x8, x21⟩ := x
      unfold tree_Witness_l7 at hF
      refine wR hs rfl ?_
      refine W (eBin rfl rfl rfl) rfl ?_
      refine wo_end ?_
      refine wp_seq ?_
      refine wIf hF rfl (fun c11 hF => ?_) (fun c11 hF => ?_)
      · refine wp_skip ?_
        refine wp_part (fun s => ∃ x8b, tree_Witness_j11 x0 r88 x21 x8b = some o102 ∧ cutAt h10 h10.pre 11 s = some (tree_Witness_s11 x0 r88 x21 x8b)) ?_ ?_
        · refine wp_block ?_
          refine wR rfl rfl ?_
          obtain ⟨g12, hF⟩ := gd_some hF
          refine W (eIxD rfl rfl (kindOfTy ty22 rfl) g12) rfl ?_
          refine W (eLdA rfl (kindOfTy ty3 rfl)) rfl ?_
          refine W (eAsg rfl rfl) rfl ?_
          refine wo_end ?_
          refine wDq (M := fun s => ∃ x47, tree_Witness_q9 x0 r88 x8 x21 x47 = some o102 ∧ s = tree_Witness_t9 x0 r88 x8 x21 x47) rfl rfl rfl ?_ ?_
          · refine W (eFaP rfl (fieldAt ty50 rfl rfl ty22 rfl)) rfl ?_
            refine W (eLdP rfl rfl ty22 rfl rfl) rfl ?_
            refine W (eMove rfl rfl) rfl ?_
            obtain ⟨g13, hF⟩ := gd_some hF
            refine W (eIxD rfl rfl (kindOfTy ty22 rfl) g13) rfl ?_
            refine W (eLdA rfl (kindOfTy ty3 rfl)) rfl ?_
            refine W (eBin rfl rfl rfl) rfl ?_
            refine W (eMove rfl rfl) rfl ?_
            refine ifT hF (fun c14 hF => ?_) (fun c14 hF => ?_)
            · refine Wy rfl rfl c14 (eMove rfl rfl) rfl ?_
              refine Wy rfl rfl c14 (eBin rfl rfl rfl) rfl ?_
              refine Wy rfl rfl c14 (eMove rfl rfl) rfl ?_
              refine ifT hF (fun c15 hF => ?_) (fun c15 hF => ?_)
              · refine Wn rfl rfl c15 rfl ?_
                refine Wn rfl rfl c15 rfl ?_
                refine Wn rfl rfl c15 rfl ?_
                refine Wn rfl rfl c15 rfl ?_
                refine Wn rfl rfl c15 rfl ?_
                refine Wn rfl rfl c15 rfl ?_
                refine Wn rfl rfl c15 rfl ?_
                refine Wn rfl rfl c15 rfl ?_
                refine Wn rfl rfl c15 rfl ?_
                refine Wn rfl rfl c15 rfl ?_
                refine Wn rfl rfl c15 rfl ?_
                refine Wy rfl rfl c14 (ePickT rfl c15 rfl) rfl ?_
                refine W (ePickT rfl c14 rfl) rfl ?_
                refine wo_end ?_
                exact ⟨tree_Witness_t9 x0 r88 x8 x21 true, by kernel_rfl, true, hF, rfl⟩
              · refine Wy rfl rfl c15 (eFaP rfl (fieldAt ty50 rfl rfl ty22 rfl)) rfl ?_
                refine Wy rfl rfl c15 (eLdP rfl rfl ty22 rfl rfl) rfl ?_
                refine Wy rfl rfl c15 (eMove rfl rfl) rfl ?_
                refine Wy rfl rfl c15 (eIxD rfl rfl (kindOfTy ty22 rfl) g13) rfl ?_
                refine Wy rfl rfl c15 (eLdA rfl (kindOfTy ty3 rfl)) rfl ?_
                refine Wy rfl rfl c15 (eFaP rfl (fieldAt ty50 rfl rfl ty22 rfl)) rfl ?_
                refine Wy rfl rfl c15 (eLdP rfl rfl ty22 rfl rfl) rfl ?_
                refine Wy rfl rfl c15 (eMove rfl rfl) rfl ?_
                obtain ⟨g16, hF⟩ := gd_some hF
                refine Wy rfl rfl c15 (eIxD rfl rfl (kindOfTy ty22 rfl) g16) rfl ?_
                refine Wy rfl rfl c15 (eLdA rfl (kindOfTy ty3 rfl)) rfl ?_
                refine Wy rfl rfl c15 (eBin rfl rfl rfl) rfl ?_
                refine Wy rfl rfl c14 (ePickF rfl c15 rfl) rfl ?_
                refine W (ePickT rfl c14 rfl) rfl ?_
                refine wo_end ?_
                exact ⟨tree_Witness_t9 x0 r88 x8 x21 (decide ((r88.1.getD (x0.2.2.1.getD x21.toNat (0 : Int)).toNat (0 : Int)) < (r88.1.getD x8.toNat (0 : Int)))), by kernel_rfl, (decide ((r88.1.getD (x0.2.2.1.getD x21.toNat (0 : Int)).toNat (0 : Int)) < (r88.1.getD x8.toNat (0 : Int)))), hF, rfl⟩
            · refine Wn rfl rfl c14 rfl ?_
              refine Wn rfl rfl c14 rfl ?_
              refine Wn rfl rfl c14 rfl ?_
              refine Ws rfl rfl rfl ?_
              refine Ws rfl rfl rfl ?_
              refine Ws rfl rfl rfl ?_
              refine Ws rfl rfl rfl ?_
              refine Ws rfl rfl rfl ?_
              refine Ws rfl rfl rfl ?_
              refine Ws rfl rfl rfl ?_
              refine Ws rfl rfl rfl ?_
              refine Ws rfl rfl rfl ?_
              refine Ws rfl rfl rfl ?_
              refine Ws rfl rfl rfl ?_
              refine Wn rfl rfl c14 rfl ?_
              refine W (ePickF rfl c14 rfl) rfl ?_
              refine wo_end ?_
              exact ⟨tree_Witness_t9 x0 r88 x8 x21 false, by kernel_rfl, false, hF, rfl⟩
          · rintro s ⟨x47, hF, rfl⟩
            unfold tree_Witness_q9 at hF
            refine wIf hF rfl (fun c17 hF => ?_) (fun c17 hF => ?_)
            · refine wR1 rfl rfl ?_
              refine W (eMove rfl rfl) rfl ?_
              refine W (eAsg rfl rfl) rfl ?_
              refine wo_end ?_
              exact ⟨(x0.2.2.1.getD x21.toNat (0 : Int)), hF, by kernel_rfl⟩
            · refine wp_skip ?_
              exact ⟨x8, hF, by kernel_rfl⟩
        · rintro s ⟨x8b, hF, hs⟩
          unfold tree_Witness_j11 at hF
          refine wR1 hs rfl ?_
          refine W (eBin rfl rfl rfl) rfl ?_
          refine W (eMove rfl rfl) rfl ?_
          refine wo_end ?_
          cases hF; exact And.intro rfl (by show _ = _; kernel_rfl)
      · refine wp_exit ?_
        cases hF; exact And.intro (fun h => nomatch h) (And.intro rfl (by show _ = _; kernel_rfl))
    · revert e100; intro x8c h101 hF hq
      obtain ⟨rfl, hs⟩ := hq
      refine wp_seq ?_
      refine wR hs rfl ?_
      refine W (eMove rfl rfl) rfl ?_
      refine W (eBin rfl rfl rfl) rfl ?_
      refine wo_end ?_
      refine wIf hF rfl (fun c18 hF => ?_) (fun c18 hF => ?_)
      · refine wR rfl rfl ?_
        refine W (eNilA rfl ty22 rfl (nilPlain rfl)) rfl ?_
        refine W (eNilA rfl ty22 rfl (nilPlain rfl)) rfl ?_
        refine W (eAsg rfl rfl) rfl ?_
        refine W (eAsg rfl rfl) rfl ?_
        refine wo_end ?_
        refine wp_ret ?_
        cases hF; exact (And.intro (.inr rfl) (finG rfl rfl (mapC rfl (mapC rfl (mapC rfl (mapC rfl mapN)))) (fvD rfl ty22 rfl dN (fvD rfl ty22 rfl dN (fvD rfl ty4 rfl dD (fvD rfl ty32 rfl dD fvN)))) (by kernel_rfl)))
      · refine wp_skip ?_
        refine wp_seq ?_
        refine wR rfl rfl ?_
        refine W (eFaP rfl (fieldAt ty50 rfl rfl ty22 rfl)) rfl ?_
        refine W (eLdP rfl rfl ty22 rfl rfl) rfl ?_
        refine W (eMove rfl rfl) rfl ?_
        obtain ⟨g19, hF⟩ := gd_some hF
        refine W (eIxD rfl rfl (kindOfTy ty22 rfl) g19) rfl ?_
        refine W (eLdA rfl (kindOfTy ty3 rfl)) rfl ?_
        refine W (eBin rfl rfl rfl) rfl ?_
        refine wo_end ?_
        refine wIf hF rfl (fun c20 hF => ?_) (fun c20 hF => ?_)
        · refine wR rfl rfl ?_
          refine W (eNilA rfl ty22 rfl (nilPlain rfl)) rfl ?_
          refine W (eNilA rfl ty22 rfl (nilPlain rfl)) rfl ?_
          refine W (eAsg rfl rfl) rfl ?_
          refine W (eAsg rfl rfl) rfl ?_
          refine wo_end ?_
          refine wp_ret ?_
          cases hF; exact (And.intro (.inr rfl) (finG rfl rfl (mapC rfl (mapC rfl (mapC rfl (mapC rfl mapN)))) (fvD rfl ty22 rfl dN (fvD rfl ty22 rfl dN (fvD rfl ty4 rfl dD (fvD rfl ty32 rfl dD fvN)))) (by kernel_rfl)))
        · refine wp_skip ?_
          refine wR rfl rfl ?_
          refine W (eLdP rfl rfl ty50 rfl rfl) rfl ?_
          refine W (eMove rfl rfl) rfl ?_
          obtain ⟨r81, e21, hF⟩ := bind_some hF
          refine W (eCall rfl rfl (callH (ids := []) (roots := []) (v := .tuple [.sl 81 0 [] (0 : Int) ((r81.1.length : Nat) : Int), .sl 82 0 [] (0 : Int) ((r81.2.length : Nat) : Int)]) (us := [(81, some (.arr .no (.int .i64) r81.1 0 none)), (82, some (.arr .no (.int .i64) r81.2 0 none))]) fn21 rfl rfl (hoD rfl ty50 rfl dD (hoD rfl ty3 rfl dD (hoO rfl (hoO rfl hoN)))) (by kernel_rfl) (by kernel_rfl) (by kernel_rfl) (by kernel_rfl) (by kernel_rfl) (tree_growth_write_ok e21) (by kernel_rfl) (by kernel_rfl) (fun _ => by kernel_rfl))) rfl ?_
          refine W (eMove rfl rfl) rfl ?_
          refine W (eExt rfl rfl) rfl ?_
          refine W (eExt rfl rfl) rfl ?_
          refine W (eAsg rfl rfl) rfl ?_
          refine W (eAsg rfl rfl) rfl ?_
          refine wo_end ?_
          refine wR rfl rfl ?_
          refine W (eMove rfl rfl) rfl ?_
          refine W (eMove rfl rfl) rfl ?_
          refine W (eAsg rfl rfl) rfl ?_
          refine W (eAsg rfl rfl) rfl ?_
          refine W (eAsg rfl rfl) rfl ?_
          refine W (eAsg rfl rfl) rfl ?_
          refine wo_end ?_
          refine wp_ret ?_
          cases hF; exact (And.intro (.inr rfl) (finG rfl rfl (mapC rfl (mapC rfl (mapC rfl (mapC rfl mapN)))) (fvD rfl ty22 rfl (asData_cont (k := (.int .i64)) (contSF (k := (.int .i64)) (r := 81) (xs := r81.1) rfl)) (fvD rfl ty22 rfl (asData_cont (k := (.int .i64)) (contSF (k := (.int .i64)) (r := 82) (xs := r81.2) rfl)) (fvD rfl ty4 rfl dD (fvD rfl ty32 rfl dD fvN)))) (by kernel_rfl)))

end Go.Lite.Fam
end

section
set_option linter.unusedVariables false
set_option linter.unusedSimpArgs false
set_option maxRecDepth 100000
set_option maxHeartbeats 20000000
namespace Go.Lite.Fam
open Go Go.Lite Go.Proofs

def ref07_Fewest_o3_6 (x0 : T_api_TreeAutomaton) (x4b : (List Int)) : St := ⟨slotsOf [(1, .ptr 0 0), (4, .sl 1 0 [] (0 : Int) x0.2.1)], heapFrom 0 [some (.box [.data (.int .i64) x0.1, .data (.int .i64) x0.2.1, .data (.slice (.int .i64)) x0.2.2.1, .data (.slice K_api_Leaf) x0.2.2.2.1, .data (.slice K_api_Branch) x0.2.2.2.2.1]), some (.arr .no (.int .i64) x4b 0 none)], 2⟩
def ref07_Fewest_s3 (x0 : T_api_TreeAutomaton) (x4 : (List Int)) (x5 : Int) : St := ⟨slotsOf [(1, .ptr 0 0), (4, .sl 1 0 [] (0 : Int) x0.2.1), (5, .data (.int .i64) x5)], heapFrom 0 [some (.box [.data (.int .i64) x0.1, .data (.int .i64) x0.2.1, .data (.slice (.int .i64)) x0.2.2.1, .data (.slice K_api_Leaf) x0.2.2.2.1, .data (.slice K_api_Branch) x0.2.2.2.2.1]), some (.arr .no (.int .i64) x4 0 none)], 2⟩
def ref07_Fewest_t13 (x0 : T_api_TreeAutomaton) (x4d : (List Int)) (x6b : Bool) (x7 : Int) (x57 : Bool) : St := ⟨slotsOf [(1, .ptr 0 0), (4, .sl 1 0 [] (0 : Int) x0.2.1), (6, .data .bool x6b), (7, .data (.int .i64) x7), (8, .ptr 2 0), (57, .data .bool x57)], heapFrom 0 [some (.box [.data (.int .i64) x0.1, .data (.int .i64) x0.2.1, .data (.slice (.int .i64)) x0.2.2.1, .data (.slice K_api_Leaf) x0.2.2.2.1, .data (.slice K_api_Branch) x0.2.2.2.2.1]), some (.arr .no (.int .i64) x4d 0 none), some (.box [.data (.int .i64) ((x0.2.2.2.2.1.getD x7.toNat (Z_api_Branch)).1), .data (.int .i64) ((x0.2.2.2.2.1.getD x7.toNat (Z_api_Branch)).2.1), .data (.int .i64) ((x0.2.2.2.2.1.getD x7.toNat (Z_api_Branch)).2.2.1), .data (.int .i64) ((x0.2.2.2.2.1.getD x7.toNat (Z_api_Branch)).2.2.2.1)])], 3⟩
def ref07_Fewest_t15 (x0 : T_api_TreeAutomaton) (x4d : (List Int)) (x6b : Bool) (x7 : Int) (x85 : Bool) : St := ⟨slotsOf [(1, .ptr 0 0), (4, .sl 1 0 [] (0 : Int) x0.2.1), (6, .data .bool x6b), (7, .data (.int .i64) x7), (8, .ptr 2 0), (9, .data (.int .i64) (if (IntKind.i64.wrap ((IntKind.i64.wrap ((1 : Int) + (x4d.getD ((x0.2.2.2.2.1.getD x7.toNat (Z_api_Branch)).2.1).toNat (0 : Int)))) + (x4d.getD ((x0.2.2.2.2.1.getD x7.toNat (Z_api_Branch)).2.2.1).toNat (0 : Int)))) < (4097 : Int) then (IntKind.i64.wrap ((IntKind.i64.wrap ((1 : Int) + (x4d.getD ((x0.2.2.2.2.1.getD x7.toNat (Z_api_Branch)).2.1).toNat (0 : Int)))) + (x4d.getD ((x0.2.2.2.2.1.getD x7.toNat (Z_api_Branch)).2.2.1).toNat (0 : Int)))) else (4097 : Int))), (85, .data .bool x85)], heapFrom 0 [some (.box [.data (.int .i64) x0.1, .data (.int .i64) x0.2.1, .data (.slice (.int .i64)) x0.2.2.1, .data (.slice K_api_Leaf) x0.2.2.2.1, .data (.slice K_api_Branch) x0.2.2.2.2.1]), some (.arr .no (.int .i64) x4d 0 none), some (.box [.data (.int .i64) ((x0.2.2.2.2.1.getD x7.toNat (Z_api_Branch)).1), .data (.int .i64) ((x0.2.2.2.2.1.getD x7.toNat (Z_api_Branch)).2.1), .data (.int .i64) ((x0.2.2.2.2.1.getD x7.toNat (Z_api_Branch)).2.2.1), .data (.int .i64) ((x0.2.2.2.2.1.getD x7.toNat (Z_api_Branch)).2.2.2.1)])], 3⟩
def ref07_Fewest_s11 (x0 : T_api_TreeAutomaton) (x7 : Int) (x4e : (List Int)) (x6c : Bool) : St := ⟨slotsOf [(1, .ptr 0 0), (4, .sl 1 0 [] (0 : Int) x0.2.1), (6, .data .bool x6c), (7, .data (.int .i64) x7)], heapFrom 0 [some (.box [.data (.int .i64) x0.1, .data (.int .i64) x0.2.1, .data (.slice (.int .i64)) x0.2.2.1, .data (.slice K_api_Leaf) x0.2.2.2.1, .data (.slice K_api_Branch) x0.2.2.2.2.1]), some (.arr .no (.int .i64) x4e 0 none)], 2⟩
def ref07_Fewest_o10_7 (x0 : T_api_TreeAutomaton) (x4f : (List Int)) (x6d : Bool) : St := ⟨slotsOf [(1, .ptr 0 0), (4, .sl 1 0 [] (0 : Int) x0.2.1), (6, .data .bool x6d)], heapFrom 0 [some (.box [.data (.int .i64) x0.1, .data (.int .i64) x0.2.1, .data (.slice (.int .i64)) x0.2.2.1, .data (.slice K_api_Leaf) x0.2.2.2.1, .data (.slice K_api_Branch) x0.2.2.2.2.1]), some (.arr .no (.int .i64) x4f 0 none)], 2⟩
def ref07_Fewest_s10 (x0 : T_api_TreeAutomaton) (x4d : (List Int)) (x6b : Bool) (x7 : Int) : St := ⟨slotsOf [(1, .ptr 0 0), (4, .sl 1 0 [] (0 : Int) x0.2.1), (6, .data .bool x6b), (7, .data (.int .i64) x7)], heapFrom 0 [some (.box [.data (.int .i64) x0.1, .data (.int .i64) x0.2.1, .data (.slice (.int .i64)) x0.2.2.1, .data (.slice K_api_Leaf) x0.2.2.2.1, .data (.slice K_api_Branch) x0.2.2.2.2.1]), some (.arr .no (.int .i64) x4d 0 none)], 2⟩
def ref07_Fewest_o7_18 (x0 : T_api_TreeAutomaton) (x4g : (List Int)) : St := ⟨slotsOf [(1, .ptr 0 0), (4, .sl 1 0 [] (0 : Int) x0.2.1)], heapFrom 0 [some (.box [.data (.int .i64) x0.1, .data (.int .i64) x0.2.1, .data (.slice (.int .i64)) x0.2.2.1, .data (.slice K_api_Leaf) x0.2.2.2.1, .data (.slice K_api_Branch) x0.2.2.2.2.1]), some (.arr .no (.int .i64) x4g 0 none)], 2⟩
def ref07_Fewest_s7 (x0 : T_api_TreeAutomaton) (x4c : (List Int)) (x6 : Bool) : St := ⟨slotsOf [(1, .ptr 0 0), (4, .sl 1 0 [] (0 : Int) x0.2.1), (6, .data .bool x6)], heapFrom 0 [some (.box [.data (.int .i64) x0.1, .data (.int .i64) x0.2.1, .data (.slice (.int .i64)) x0.2.2.1, .data (.slice K_api_Leaf) x0.2.2.2.1, .data (.slice K_api_Branch) x0.2.2.2.2.1]), some (.arr .no (.int .i64) x4c 0 none)], 2⟩
def ref07_Fewest_t23 (x0 : T_api_TreeAutomaton) (x4g : (List Int)) (x10 : Int) (x11 : Int) (x116 : Bool) : St := ⟨slotsOf [(1, .ptr 0 0), (4, .sl 1 0 [] (0 : Int) x0.2.1), (10, .data (.int .i64) x10), (11, .data (.int .i64) x11), (12, .data (.int .i64) (x4g.getD (x0.2.2.1.getD x11.toNat (0 : Int)).toNat (0 : Int))), (116, .data .bool x116)], heapFrom 0 [some (.box [.data (.int .i64) x0.1, .data (.int .i64) x0.2.1, .data (.slice (.int .i64)) x0.2.2.1, .data (.slice K_api_Leaf) x0.2.2.2.1, .data (.slice K_api_Branch) x0.2.2.2.2.1]), some (.arr .no (.int .i64) x4g 0 none)], 2⟩
def ref07_Fewest_s21 (x0 : T_api_TreeAutomaton) (x4g : (List Int)) (x11 : Int) (x10b : Int) : St := ⟨slotsOf [(1, .ptr 0 0), (4, .sl 1 0 [] (0 : Int) x0.2.1), (10, .data (.int .i64) x10b), (11, .data (.int .i64) x11)], heapFrom 0 [some (.box [.data (.int .i64) x0.1, .data (.int .i64) x0.2.1, .data (.slice (.int .i64)) x0.2.2.1, .data (.slice K_api_Leaf) x0.2.2.2.1, .data (.slice K_api_Branch) x0.2.2.2.2.1]), some (.arr .no (.int .i64) x4g 0 none)], 2⟩
def ref07_Fewest_o20_25 (x10c : Int) : St := ⟨slotsOf [(10, .data (.int .i64) x10c)], heapFrom 0 [], 0⟩
def ref07_Fewest_s20 (x0 : T_api_TreeAutomaton) (x4g : (List Int)) (x10 : Int) (x11 : Int) : St := ⟨slotsOf [(1, .ptr 0 0), (4, .sl 1 0 [] (0 : Int) x0.2.1), (10, .data (.int .i64) x10), (11, .data (.int .i64) x11)], heapFrom 0 [some (.box [.data (.int .i64) x0.1, .data (.int .i64) x0.2.1, .data (.slice (.int .i64)) x0.2.2.1, .data (.slice K_api_Leaf) x0.2.2.2.1, .data (.slice K_api_Branch) x0.2.2.2.2.1]), some (.arr .no (.int .i64) x4g 0 none)], 2⟩
theorem ref07_Fewest_ok {x0 : T_api_TreeAutomaton} {r : Int × Bool} (hF : ref07_Fewest x0 = some r) : evalLim cx 12 [.data K_api_TreeAutomaton x0] [] = some (.tuple [.data (.int .i64) r.1, .data .bool r.2], []) := by
  refine fnG (h := h12) fn12 rfl rfl rfl rfl ?_
  unfold ref07_Fewest at hF
  refine wR rfl rfl ?_
  refine W (eBox rfl rfl) rfl ?_
  refine W (eAsg rfl rfl) rfl ?_
  refine W (eAsg rfl rfl) rfl ?_
  refine wo_end ?_
  refine wR rfl rfl ?_
  refine W (eFaP rfl (fieldAt ty26 rfl rfl ty3 rfl)) rfl ?_
  refine W (eLdP rfl rfl ty3 rfl rfl) rfl ?_
  obtain ⟨g1, hF⟩ := gd_some hF
  refine W (eMk rfl rfl (elemOf ty22 rfl ty3 rfl) rfl g1) rfl ?_
  refine W (eAsg rfl rfl) rfl ?_
  refine wo_end ?_
  refine wp_seq ?_
  refine wR rfl rfl ?_
  refine W (eAsg rfl rfl) rfl ?_
  refine wo_end ?_
  refine wp_block ?_
  obtain ⟨e381, h382, hF⟩ := bind_some hF
  refine wLoop (Rel := fun (x : (List Int) × Int) s => cutAt h12 h12.pre 3 s = some (ref07_Fewest_s3 x0 x.1 x.2)) (QE := fun (e : (List Int)) ex s => match e with | x4b => ex = .exit 0 ∧ cutAt h12 h12.pre 6 s = some (ref07_Fewest_o3_6 x0 x4b)) (fun x o383 s hF hs => ?_) h382 (by show _ = _; kernel_rfl) (fun ex s hq => ?_)
  · obtain ⟨x4, x5⟩ := x
    unfold ref07_Fewest_l3 at hF
    refine wp_seq ?_
    refine wR hs rfl ?_
    refine W (eMove rfl rfl) rfl ?_
    refine W (eFaP rfl (fieldAt ty26 rfl rfl ty23 rfl)) rfl ?_
    refine W (eLdP rfl rfl ty23 rfl rfl) rfl ?_
    refine W (eLen rfl rfl (lenD (isSliceOf ty23 rfl))) rfl ?_
    refine W (eBin rfl rfl rfl) rfl ?_
    refine wo_end ?_
    refine wIf hF rfl (fun c5 hF => ?_) (fun c5 hF => ?_)
    · refine wp_skip ?_
      refine wp_seq ?_
      refine wp_block ?_
      refine wR1 rfl rfl ?_
      refine W (eMove rfl rfl) rfl ?_
      refine W (eFaP rfl (fieldAt ty26 rfl rfl ty23 rfl)) rfl ?_
      refine W (eLdP rfl rfl ty23 rfl rfl) rfl ?_
      refine W (eMove rfl rfl) rfl ?_
      obtain ⟨g6, hF⟩ := gd_some hF
      refine W (eIxD rfl rfl (kindOfTy ty23 rfl) g6) rfl ?_
      refine W (eFaA rfl (fieldAt ty56 rfl rfl ty3 rfl) rfl rfl rfl) rfl ?_
      refine W (eLdA rfl (kindOfTy ty3 rfl)) rfl ?_
      obtain ⟨g7, hF⟩ := gd_some hF
      refine W (eIxS rfl rfl rfl (kindOfTy ty22 rfl) g7) rfl ?_
      refine W (eStE rfl rfl rfl rfl rfl (kindOfTy ty3 rfl) rfl absD rfl rfl) rfl ?_
      refine wo_end ?_
      refine wR1 rfl rfl ?_
      refine W (eMove rfl rfl) rfl ?_
      refine W (eBin rfl rfl rfl) rfl ?_
      refine W (eAsg rfl rfl) rfl ?_
      refine wo_end ?_
      cases hF; exact And.intro rfl (by show _ = _; kernel_rfl)
    · refine wp_exit ?_
      cases hF; exact And.intro (fun h => nomatch h) (And.intro rfl (by show _ = _; kernel_rfl))
  · revert e381; intro x4b h382 hF hq
    obtain ⟨rfl, hs⟩ := hq
    refine wp_seq ?_
    refine wR hs rfl ?_
    refine W (eAsg rfl rfl) rfl ?_
    refine wo_end ?_
    refine wp_block ?_
    obtain ⟨e384, h385, hF⟩ := bind_some hF
    refine wLoop (Rel := fun (x : (List Int) × Bool) s => cutAt h12 h12.pre 7 s = some (ref07_Fewest_s7 x0 x.1 x.2)) (QE := fun (e : (List Int)) ex s => match e with | x4g => ex = .exit 2 ∧ cutAt h12 h12.pre 18 s = some (ref07_Fewest_o7_18 x0 x4g)) (fun x o386 s hF hs => ?_) h385 (by show _ = _; kernel_rfl) (fun ex s hq => ?_)
    · obtain ⟨x4c, x6⟩ := x
      unfold ref07_Fewest_l7 at hF
      refine wp_seq ?_
      refine wR hs rfl ?_
      refine W (eMove rfl rfl) rfl ?_
      refine wo_end ?_
      refine wIf hF rfl (fun c32 hF => ?_) (fun c32 hF => ?_)
      · refine wp_skip ?_
        refine wp_block ?_
        refine wR rfl rfl ?_
        refine W (eAsg rfl rfl) rfl ?_
        refine wo_end ?_
        refine wR rfl rfl ?_
        refine W (eAsg rfl rfl) rfl ?_
        refine wo_end ?_
        refine wp_block ?_
        obtain ⟨e387, h388, hF⟩ := bind_some hF
        refine wLoop (Rel := fun (x : (List Int) × Bool × Int) s => cutAt h12 h12.pre 10 s = some (ref07_Fewest_s10 x0 x.1 x.2.1 x.2.2)) (QE := fun (e : (List Int) × Bool) ex s => match e with | (x4f, x6d) => ex = .exit 4 ∧ cutAt h12 h12.pre 7 s = some (ref07_Fewest_o10_7 x0 x4f x6d)) (fun x o389 s hF hs => ?_) h388 (by show _ = _; kernel_rfl) (fun ex s hq => ?_)
        · obtain ⟨x4d, x6b, x7⟩ := x
          unfold ref07_Fewest_l10 at hF
          refine wp_seq ?_
          refine wR hs rfl ?_
          refine W (eMove rfl rfl) rfl ?_
          refine W (eFaP rfl (fieldAt ty26 rfl rfl ty24 rfl)) rfl ?_
          refine W (eLdP rfl rfl ty24 rfl rfl) rfl ?_
          refine W (eLen rfl rfl (lenD (isSliceOf ty24 rfl))) rfl ?_
          refine W (eBin rfl rfl rfl) rfl ?_
          refine wo_end ?_
          refine wIf hF rfl (fun c45 hF => ?_) (fun c45 hF => ?_)
          · refine wp_skip ?_
            refine wp_part (fun s => ∃ x4e x6c, ref07_Fewest_j11 x0 x7 x4e x6c = some o389 ∧ cutAt h12 h12.pre 11 s = some (ref07_Fewest_s11 x0 x7 x4e x6c)) ?_ ?_
            · refine wp_block ?_
              refine wR rfl rfl ?_
              refine W (eFaP rfl (fieldAt ty26 rfl rfl ty24 rfl)) rfl ?_
              refine W (eLdP rfl rfl ty24 rfl rfl) rfl ?_
              refine W (eMove rfl rfl) rfl ?_
              obtain ⟨g46, hF⟩ := gd_some hF
              refine W (eIxD rfl rfl (kindOfTy ty24 rfl) g46) rfl ?_
              refine W (eLdA rfl (kindOfTy ty58 rfl)) rfl ?_
              refine W (eAlloc zero58) rfl ?_
              refine W (eStP rfl rfl rfl rfl ty58 rfl rfl) rfl ?_
              refine wo_end ?_
              refine wp_seq ?_
              refine wRq (M := fun s => ∃ x57, ref07_Fewest_q13 x0 x4d x6b x7 x57 = some o389 ∧ s = ref07_Fewest_t13 x0 x4d x6b x7 x57) rfl ?_ ?_
              · refine W (eMove rfl rfl) rfl ?_
                refine W (eFaP rfl (fieldAt ty58 rfl rfl ty3 rfl)) rfl ?_
                refine W (eLdP rfl rfl ty3 rfl rfl) rfl ?_
                obtain ⟨g47, hF⟩ := gd_some hF
                refine W (eIxS rfl rfl rfl (kindOfTy ty22 rfl) g47) rfl ?_
                refine W (eLdE rfl rfl rfl (kindOfTy ty3 rfl) rfl) rfl ?_
                refine W (eBin rfl rfl rfl) rfl ?_
                refine W (eMove rfl rfl) rfl ?_
                refine ifT hF (fun c48 hF => ?_) (fun c48 hF => ?_)
                · refine Wn rfl rfl c48 rfl ?_
                  refine Wn rfl rfl c48 rfl ?_
                  refine Wn rfl rfl c48 rfl ?_
                  refine Wn rfl rfl c48 rfl ?_
                  refine Wn rfl rfl c48 rfl ?_
                  refine Wn rfl rfl c48 rfl ?_
                  refine W (ePickT rfl c48 rfl) rfl ?_
                  refine wo_end ?_
                  exact ⟨ref07_Fewest_t13 x0 x4d x6b x7 true, by kernel_rfl, true, hF, rfl⟩
                · refine Wy rfl rfl c48 (eMove rfl rfl) rfl ?_
                  refine Wy rfl rfl c48 (eFaP rfl (fieldAt ty58 rfl rfl ty3 rfl)) rfl ?_
                  refine Wy rfl rfl c48 (eLdP rfl rfl ty3 rfl rfl) rfl ?_
                  obtain ⟨g49, hF⟩ := gd_some hF
                  refine Wy rfl rfl c48 (eIxS rfl rfl rfl (kindOfTy ty22 rfl) g49) rfl ?_
                  refine Wy rfl rfl c48 (eLdE rfl rfl rfl (kindOfTy ty3 rfl) rfl) rfl ?_
                  refine Wy rfl rfl c48 (eBin rfl rfl rfl) rfl ?_
                  refine W (ePickF rfl c48 rfl) rfl ?_
                  refine wo_end ?_
                  exact ⟨ref07_Fewest_t13 x0 x4d x6b x7 ((x4d.getD ((x0.2.2.2.2.1.getD x7.toNat (Z_api_Branch)).2.2.1).toNat (0 : Int)) == (0 : Int)), by kernel_rfl, ((x4d.getD ((x0.2.2.2.2.1.getD x7.toNat (Z_api_Branch)).2.2.1).toNat (0 : Int)) == (0 : Int)), hF, rfl⟩
              · rintro s ⟨x57, hF, rfl⟩
                unfold ref07_Fewest_q13 at hF
                refine wIf hF rfl (fun c50 hF => ?_) (fun c50 hF => ?_)
                · refine wp_exit ?_
                  exact ⟨x4d, x6b, hF, by kernel_rfl⟩
                · refine wp_skip ?_
                  refine wD rfl rfl rfl rfl ?_
                  refine W (eMove rfl rfl) rfl ?_
                  refine W (eFaP rfl (fieldAt ty58 rfl rfl ty3 rfl)) rfl ?_
                  refine W (eLdP rfl rfl ty3 rfl rfl) rfl ?_
                  obtain ⟨g51, hF⟩ := gd_some hF
                  refine W (eIxS rfl rfl rfl (kindOfTy ty22 rfl) g51) rfl ?_
                  refine W (eLdE rfl rfl rfl (kindOfTy ty3 rfl) rfl) rfl ?_
                  refine W (eBin rfl rfl rfl) rfl ?_
                  refine W (eMove rfl rfl) rfl ?_
                  refine W (eFaP rfl (fieldAt ty58 rfl rfl ty3 rfl)) rfl ?_
                  refine W (eLdP rfl rfl ty3 rfl rfl) rfl ?_
                  obtain ⟨g52, hF⟩ := gd_some hF
                  refine W (eIxS rfl rfl rfl (kindOfTy ty22 rfl) g52) rfl ?_
                  refine W (eLdE rfl rfl rfl (kindOfTy ty3 rfl) rfl) rfl ?_
                  refine W (eBin rfl rfl rfl) rfl ?_
                  refine W (eMin rfl rfl) rfl ?_
                  refine W (eAsg rfl rfl) rfl ?_
                  refine wo_end ?_
                  refine wRq (M := fun s => ∃ x85, ref07_Fewest_q15 x0 x4d x6b x7 x85 = some o389 ∧ s = ref07_Fewest_t15 x0 x4d x6b x7 x85) rfl ?_ ?_
                  · refine W (eMove rfl rfl) rfl ?_
                    refine W (eFaP rfl (fieldAt ty58 rfl rfl ty3 rfl)) rfl ?_
                    refine W (eLdP rfl rfl ty3 rfl rfl) rfl ?_
                    obtain ⟨g53, hF⟩ := gd_some hF
                    refine W (eIxS rfl rfl rfl (kindOfTy ty22 rfl) g53) rfl ?_
                    refine W (eLdE rfl rfl rfl (kindOfTy ty3 rfl) rfl) rfl ?_
                    refine W (eBin rfl rfl rfl) rfl ?_
                    refine W (eMove rfl rfl) rfl ?_
                    refine ifT hF (fun c54 hF => ?_) (fun c54 hF => ?_)
                    · refine Wn rfl rfl c54 rfl ?_
                      refine Wn rfl rfl c54 rfl ?_
                      refine Wn rfl rfl c54 rfl ?_
                      refine Wn rfl rfl c54 rfl ?_
                      refine Wn rfl rfl c54 rfl ?_
                      refine Wn rfl rfl c54 rfl ?_
                      refine Wn rfl rfl c54 rfl ?_
                      refine W (ePickT rfl c54 rfl) rfl ?_
                      refine wo_end ?_
                      exact ⟨ref07_Fewest_t15 x0 x4d x6b x7 true, by kernel_rfl, true, hF, rfl⟩
                    · refine Wy rfl rfl c54 (eMove rfl rfl) rfl ?_
                      refine Wy rfl rfl c54 (eMove rfl rfl) rfl ?_
                      refine Wy rfl rfl c54 (eFaP rfl (fieldAt ty58 rfl rfl ty3 rfl)) rfl ?_
                      refine Wy rfl rfl c54 (eLdP rfl rfl ty3 rfl rfl) rfl ?_
                      refine Wy rfl rfl c54 (eIxS rfl rfl rfl (kindOfTy ty22 rfl) g53) rfl ?_
                      refine Wy rfl rfl c54 (eLdE rfl rfl rfl (kindOfTy ty3 rfl) rfl) rfl ?_
                      refine Wy rfl rfl c54 (eBin rfl rfl rfl) rfl ?_
                      refine W (ePickF rfl c54 rfl) rfl ?_
                      refine wo_end ?_
                      exact ⟨ref07_Fewest_t15 x0 x4d x6b x7 (decide ((if (IntKind.i64.wrap ((IntKind.i64.wrap ((1 : Int) + (x4d.getD ((x0.2.2.2.2.1.getD x7.toNat (Z_api_Branch)).2.1).toNat (0 : Int)))) + (x4d.getD ((x0.2.2.2.2.1.getD x7.toNat (Z_api_Branch)).2.2.1).toNat (0 : Int)))) < (4097 : Int) then (IntKind.i64.wrap ((IntKind.i64.wrap ((1 : Int) + (x4d.getD ((x0.2.2.2.2.1.getD x7.toNat (Z_api_Branch)).2.1).toNat (0 : Int)))) + (x4d.getD ((x0.2.2.2.2.1.getD x7.toNat (Z_api_Branch)).2.2.1).toNat (0 : Int)))) else (4097 : Int)) < (x4d.getD ((x0.2.2.2.2.1.getD x7.toNat (Z_api_Branch)).2.2.2.1).toNat (0 : Int)))), by kernel_rfl, (decide ((if (IntKind.i64.wrap ((IntKind.i64.wrap ((1 : Int) + (x4d.getD ((x0.2.2.2.2.1.getD x7.toNat (Z_api_Branch)).2.1).toNat (0 : Int)))) + (x4d.getD ((x0.2.2.2.2.1.getD x7.toNat (Z_api_Branch)).2.2.1).toNat (0 : Int)))) < (4097 : Int) then (IntKind.i64.wrap ((IntKind.i64.wrap ((1 : Int) + (x4d.getD ((x0.2.2.2.2.1.getD x7.toNat (Z_api_Branch)).2.1).toNat (0 : Int)))) + (x4d.getD ((x0.2.2.2.2.1.getD x7.toNat (Z_api_Branch)).2.2.1).toNat (0 : Int)))) else (4097 : Int)) < (x4d.getD ((x0.2.2.2.2.1.getD x7.toNat (Z_api_Branch)).2.2.2.1).toNat (0 : Int)))), hF, rfl⟩
                  · rintro s ⟨x85, hF, rfl⟩
                    unfold ref07_Fewest_q15 at hF
                    refine wIf hF rfl (fun c55 hF => ?_) (fun c55 hF => ?_)
                    · refine wR rfl rfl ?_
                      refine W (eMove rfl rfl) rfl ?_
                      refine W (eFaP rfl (fieldAt ty58 rfl rfl ty3 rfl)) rfl ?_
                      refine W (eLdP rfl rfl ty3 rfl rfl) rfl ?_
                      refine W (eMove rfl rfl) rfl ?_
                      obtain ⟨g56, hF⟩ := gd_some hF
                      refine W (eIxS rfl rfl rfl (kindOfTy ty22 rfl) g56) rfl ?_
                      refine W (eStE rfl rfl rfl rfl rfl (kindOfTy ty3 rfl) rfl absD rfl rfl) rfl ?_
                      refine wo_end ?_
                      refine wR1 rfl rfl ?_
                      refine W (eAsg rfl rfl) rfl ?_
                      refine wo_end ?_
                      exact ⟨(x4d.set ((x0.2.2.2.2.1.getD x7.toNat (Z_api_Branch)).2.2.2.1).toNat (if (IntKind.i64.wrap ((IntKind.i64.wrap ((1 : Int) + (x4d.getD ((x0.2.2.2.2.1.getD x7.toNat (Z_api_Branch)).2.1).toNat (0 : Int)))) + (x4d.getD ((x0.2.2.2.2.1.getD x7.toNat (Z_api_Branch)).2.2.1).toNat (0 : Int)))) < (4097 : Int) then (IntKind.i64.wrap ((IntKind.i64.wrap ((1 : Int) + (x4d.getD ((x0.2.2.2.2.1.getD x7.toNat (Z_api_Branch)).2.1).toNat (0 : Int)))) + (x4d.getD ((x0.2.2.2.2.1.getD x7.toNat (Z_api_Branch)).2.2.1).toNat (0 : Int)))) else (4097 : Int))), true, hF, by kernel_rfl⟩
                    · refine wp_skip ?_
                      exact ⟨x4d, x6b, hF, by kernel_rfl⟩
            · rintro s ⟨x4e, x6c, hF, hs⟩
              unfold ref07_Fewest_j11 at hF
              refine wR1 hs rfl ?_
              refine W (eMove rfl rfl) rfl ?_
              refine W (eBin rfl rfl rfl) rfl ?_
              refine W (eAsg rfl rfl) rfl ?_
              refine wo_end ?_
              cases hF; exact And.intro rfl (by show _ = _; kernel_rfl)
          · refine wp_exit ?_
            cases hF; exact And.intro (fun h => nomatch h) (And.intro rfl (by show _ = _; kernel_rfl))
        · obtain ⟨x4f, x6d⟩ := e387
          obtain ⟨rfl, hs⟩ := hq
          cases hF; exact And.intro rfl hs
      · refine wp_exit ?_
        cases hF; exact And.intro (fun h => nomatch h) (And.intro rfl (by show _ = _; kernel_rfl))
    · revert e384; intro x4g h385 hF hq
      obtain ⟨rfl, hs⟩ := hq
      refine wR hs rfl ?_
      refine W (eAsg rfl rfl) rfl ?_
      refine wo_end ?_
      refine wp_seq ?_
      refine wR rfl rfl ?_
      refine W (eAsg rfl rfl) rfl ?_
      refine wo_end ?_
      refine wp_block ?_
      obtain ⟨e390, h391, hF⟩ := bind_some hF
      refine wLoop (Rel := fun (x : Int × Int) s => cutAt h12 h12.pre 20 s = some (ref07_Fewest_s20 x0 x4g x.1 x.2)) (QE := fun (e : Int) ex s => match e with | x10c => ex = .exit 6 ∧ cutAt h12 h12.pre 25 s = some (ref07_Fewest_o20_25 x10c)) (fun x o392 s hF hs => ?_) h391 (by show _ = _; kernel_rfl) (fun ex s hq => ?_)
      · obtain ⟨x10, x11⟩ := x
        unfold ref07_Fewest_l20 at hF
        refine wp_seq ?_
        refine wR hs rfl ?_
        refine W (eMove rfl rfl) rfl ?_
        refine W (eFaP rfl (fieldAt ty26 rfl rfl ty22 rfl)) rfl ?_
        refine W (eLdP rfl rfl ty22 rfl rfl) rfl ?_
        refine W (eLen rfl rfl (lenD (isSliceOf ty22 rfl))) rfl ?_
        refine W (eBin rfl rfl rfl) rfl ?_
        refine wo_end ?_
        refine wIf hF rfl (fun c63 hF => ?_) (fun c63 hF => ?_)
        · refine wp_skip ?_
          refine wp_part (fun s => ∃ x10b, ref07_Fewest_j21 x0 x4g x11 x10b = some o392 ∧ cutAt h12 h12.pre 21 s = some (ref07_Fewest_s21 x0 x4g x11 x10b)) ?_ ?_
          · refine wp_block ?_
            refine wR rfl rfl ?_
            refine W (eMove rfl rfl) rfl ?_
            refine W (eFaP rfl (fieldAt ty26 rfl rfl ty22 rfl)) rfl ?_
            refine W (eLdP rfl rfl ty22 rfl rfl) rfl ?_
            refine W (eMove rfl rfl) rfl ?_
            obtain ⟨g64, hF⟩ := gd_some hF
            refine W (eIxD rfl rfl (kindOfTy ty22 rfl) g64) rfl ?_
            refine W (eLdA rfl (kindOfTy ty3 rfl)) rfl ?_
            obtain ⟨g65, hF⟩ := gd_some hF
            refine W (eIxS rfl rfl rfl (kindOfTy ty22 rfl) g65) rfl ?_
            refine W (eLdE rfl rfl rfl (kindOfTy ty3 rfl) rfl) rfl ?_
            refine W (eAsg rfl rfl) rfl ?_
            refine wo_end ?_
            refine wRq (M := fun s => ∃ x116, ref07_Fewest_q23 x0 x4g x10 x11 x116 = some o392 ∧ s = ref07_Fewest_t23 x0 x4g x10 x11 x116) rfl ?_ ?_
            · refine W (eMove rfl rfl) rfl ?_
              refine W (eBin rfl rfl rfl) rfl ?_
              refine W (eMove rfl rfl) rfl ?_
              refine ifT hF (fun c66 hF => ?_) (fun c66 hF => ?_)
              · refine Wy rfl rfl c66 (eMove rfl rfl) rfl ?_
                refine Wy rfl rfl c66 (eBin rfl rfl rfl) rfl ?_
                refine Wy rfl rfl c66 (eMove rfl rfl) rfl ?_
                refine ifT hF (fun c67 hF => ?_) (fun c67 hF => ?_)
                · refine Wn rfl rfl c67 rfl ?_
                  refine Wn rfl rfl c67 rfl ?_
                  refine Wn rfl rfl c67 rfl ?_
                  refine Wy rfl rfl c66 (ePickT rfl c67 rfl) rfl ?_
                  refine W (ePickT rfl c66 rfl) rfl ?_
                  refine wo_end ?_
                  exact ⟨ref07_Fewest_t23 x0 x4g x10 x11 true, by kernel_rfl, true, hF, rfl⟩
                · refine Wy rfl rfl c67 (eMove rfl rfl) rfl ?_
                  refine Wy rfl rfl c67 (eMove rfl rfl) rfl ?_
                  refine Wy rfl rfl c67 (eBin rfl rfl rfl) rfl ?_
                  refine Wy rfl rfl c66 (ePickF rfl c67 rfl) rfl ?_
                  refine W (ePickT rfl c66 rfl) rfl ?_
                  refine wo_end ?_
                  exact ⟨ref07_Fewest_t23 x0 x4g x10 x11 (decide ((x4g.getD (x0.2.2.1.getD x11.toNat (0 : Int)).toNat (0 : Int)) < x10)), by kernel_rfl, (decide ((x4g.getD (x0.2.2.1.getD x11.toNat (0 : Int)).toNat (0 : Int)) < x10)), hF, rfl⟩
              · refine Wn rfl rfl c66 rfl ?_
                refine Wn rfl rfl c66 rfl ?_
                refine Wn rfl rfl c66 rfl ?_
                refine Ws rfl rfl rfl ?_
                refine Ws rfl rfl rfl ?_
                refine Ws rfl rfl rfl ?_
                refine Wn rfl rfl c66 rfl ?_
                refine W (ePickF rfl c66 rfl) rfl ?_
                refine wo_end ?_
                exact ⟨ref07_Fewest_t23 x0 x4g x10 x11 false, by kernel_rfl, false, hF, rfl⟩
            · rintro s ⟨x116, hF, rfl⟩
              unfold ref07_Fewest_q23 at hF
              refine wIf hF rfl (fun c68 hF => ?_) (fun c68 hF => ?_)
              · refine wR1 rfl rfl ?_
                refine W (eMove rfl rfl) rfl ?_
                refine W (eAsg rfl rfl) rfl ?_
                refine wo_end ?_
                exact ⟨(x4g.getD (x0.2.2.1.getD x11.toNat (0 : Int)).toNat (0 : Int)), hF, by kernel_rfl⟩
              · refine wp_skip ?_
                exact ⟨x10, hF, by kernel_rfl⟩
          · rintro s ⟨x10b, hF, hs⟩
            unfold ref07_Fewest_j21 at hF
            refine wR1 hs rfl ?_
            refine W (eMove rfl rfl) rfl ?_
            refine W (eBin rfl rfl rfl) rfl ?_
            refine W (eAsg rfl rfl) rfl ?_
            refine wo_end ?_
            cases hF; exact And.intro rfl (by show _ = _; kernel_rfl)
        · refine wp_exit ?_
          cases hF; exact And.intro (fun h => nomatch h) (And.intro rfl (by show _ = _; kernel_rfl))
      · revert e390; intro x10c h391 hF hq
        obtain ⟨rfl, hs⟩ := hq
        refine wR hs rfl ?_
        refine W (eMove rfl rfl) rfl ?_
        refine W (eMove rfl rfl) rfl ?_
        refine W (eBin rfl rfl rfl) rfl ?_
        refine W (eAsg rfl rfl) rfl ?_
        refine W (eAsg rfl rfl) rfl ?_
        refine wo_end ?_
        refine wp_ret ?_
        cases hF; exact (And.intro (.inr rfl) (finG rfl rfl (mapC rfl (mapC rfl mapN)) (fvD rfl ty3 rfl dD (fvD rfl ty4 rfl dD fvN)) (by kernel_rfl)))

end Go.Lite.Fam
end

section
set_option linter.unusedVariables false
set_option linter.unusedSimpArgs false
set_option maxRecDepth 100000
set_option maxHeartbeats 20000000
namespace Go.Lite.Fam
open Go Go.Lite Go.Proofs

def law07_TreeWitnesses_t6 (x2 : Bool) : St := ⟨slotsOf [(2, .data .bool x2)], heapFrom 0 [], 0⟩
def law07_TreeWitnesses_t9 (x2b : Bool) : St := ⟨slotsOf [(2, .data .bool x2b)], heapFrom 0 [], 0⟩
def law07_TreeWitnesses_t10 (x0 : T_api_TreeAutomaton) (r40 : (List Int) × (List Int) × Bool × Int) (x80 : Bool) : St := ⟨slotsOf [(1, .ptr 0 0), (3, .data (.slice (.int .i64)) r40.1), (4, .data (.slice (.int .i64)) r40.2.1), (5, .data .bool r40.2.2.1), (80, .data .bool x80)], heapFrom 0 [some (.box [.data (.int .i64) x0.1, .data (.int .i64) x0.2.1, .data (.slice (.int .i64)) x0.2.2.1, .data (.slice K_api_Leaf) x0.2.2.2.1, .data (.slice K_api_Branch) x0.2.2.2.2.1])], 1⟩
def law07_TreeWitnesses_t13 (x2c : Bool) : St := ⟨slotsOf [(2, .data .bool x2c)], heapFrom 0 [], 0⟩
def law07_TreeWitnesses_t15 (x2d : Bool) : St := ⟨slotsOf [(2, .data .bool x2d)], heapFrom 0 [], 0⟩
theorem law07_TreeWitnesses_ok {x0 : T_api_TreeAutomaton} {r : Bool} (hF : law07_TreeWitnesses x0 = some r) : evalLim cx 4 [.data K_api_TreeAutomaton x0] [] = some (.data .bool r, []) := by
  refine fnG (h := h4) fn4 rfl rfl rfl rfl ?_
  unfold law07_TreeWitnesses at hF
  refine wR rfl rfl ?_
  refine W (eBox rfl rfl) rfl ?_
  refine W (eAsg rfl rfl) rfl ?_
  refine wo_end ?_
  refine wp_seq ?_
  refine wR rfl rfl ?_
  refine W (eLdP rfl rfl ty26 rfl rfl) rfl ?_
  obtain ⟨r24, e1, hF⟩ := bind_some hF
  refine W (eCall rfl rfl (callS fn5 rfl rfl (hoD rfl ty26 rfl dD hoN) rfl rfl (law07_Big_ok e1))) rfl ?_
  refine wo_end ?_
  refine wIf hF rfl (fun c2 hF => ?_) (fun c2 hF => ?_)
  · refine wR rfl rfl ?_
    obtain ⟨r32, e3, hF⟩ := bind_some hF
    refine W (eCall rfl rfl (callS fn7 rfl rfl hoN rfl rfl (law07_known_ok e3))) rfl ?_
    refine W (eAsg rfl rfl) rfl ?_
    refine wo_end ?_
    refine wp_ret ?_
    cases hF; exact (And.intro (.inr rfl) (finG rfl rfl (mapC rfl mapN) (fvD rfl ty4 rfl dD fvN) (by kernel_rfl)))
  · refine wp_skip ?_
    refine wR rfl rfl ?_
    refine W (eLdP rfl rfl ty26 rfl rfl) rfl ?_
    obtain ⟨r40, e4, hF⟩ := bind_some hF
    refine W (eCall rfl rfl (callS fn10 rfl rfl (hoD rfl ty26 rfl dD hoN) rfl rfl (tree_Witness_ok e4))) rfl ?_
    refine W (eMove rfl rfl) rfl ?_
    refine W (eExt rfl rfl) rfl ?_
    refine W (eExt rfl rfl) rfl ?_
    refine W (eExt rfl rfl) rfl ?_
    refine W (eExt rfl rfl) rfl ?_
    refine W (eAsg rfl rfl) rfl ?_
    refine W (eAsg rfl rfl) rfl ?_
    refine W (eAsg rfl rfl) rfl ?_
    refine W (eAsg rfl rfl) rfl ?_
    refine wo_end ?_
    refine wp_seq ?_
    refine wR rfl rfl ?_
    refine W (eLdP rfl rfl ty26 rfl rfl) rfl ?_
    obtain ⟨r128, e5, hF⟩ := bind_some hF
    refine W (eCall rfl rfl (callS fn11 rfl rfl (hoD rfl ty26 rfl dD hoN) rfl rfl (ref07_Validate_ok e5))) rfl ?_
    refine W (eAsg rfl rfl) rfl ?_
    refine wo_end ?_
    refine wR rfl rfl ?_
    refine W (eMove rfl rfl) rfl ?_
    refine W (eBin rfl rfl rfl) rfl ?_
    refine wo_end ?_
    refine wIf hF rfl (fun c6 hF => ?_) (fun c6 hF => ?_)
    · refine wRq (M := fun s => ∃ x2, law07_TreeWitnesses_q6 x2 = some r ∧ s = law07_TreeWitnesses_t6 x2) rfl ?_ ?_
      · refine W (eMove rfl rfl) rfl ?_
        refine W (eMove rfl rfl) rfl ?_
        refine W (eBin rfl rfl rfl) rfl ?_
        refine W (eMove rfl rfl) rfl ?_
        refine ifT hF (fun c7 hF => ?_) (fun c7 hF => ?_)
        · refine Wy rfl rfl c7 (eMove rfl rfl) rfl ?_
          refine Wy rfl rfl c7 (eUn rfl rfl) rfl ?_
          refine W (ePickT rfl c7 rfl) rfl ?_
          refine W (eMove rfl rfl) rfl ?_
          refine ifT hF (fun c8 hF => ?_) (fun c8 hF => ?_)
          · refine Wy rfl rfl c8 (eMove rfl rfl) rfl ?_
            refine Wy rfl rfl c8 (eLen rfl rfl (lenD (isSliceOf ty22 rfl))) rfl ?_
            refine Wy rfl rfl c8 (eMove rfl rfl) rfl ?_
            refine Wy rfl rfl c8 (eLen rfl rfl (lenD (isSliceOf ty22 rfl))) rfl ?_
            refine Wy rfl rfl c8 (eBin rfl rfl rfl) rfl ?_
            refine Wy rfl rfl c8 (eBin rfl rfl rfl) rfl ?_
            refine W (ePickT rfl c8 rfl) rfl ?_
            refine W (eMove rfl rfl) rfl ?_
            refine ifT hF (fun c9 hF => ?_) (fun c9 hF => ?_)
            · obtain ⟨r288, e10, hF⟩ := bind_some hF
              refine Wy rfl rfl c9 (eCall rfl rfl (callS fn7 rfl rfl hoN rfl rfl (law07_known_ok e10))) rfl ?_
              refine W (ePickT rfl c9 rfl) rfl ?_
              refine W (eAsg rfl rfl) rfl ?_
              refine wo_end ?_
              exact ⟨law07_TreeWitnesses_t6 r288, by kernel_rfl, r288, hF, rfl⟩
            · refine Wn rfl rfl c9 rfl ?_
              refine W (ePickF rfl c9 rfl) rfl ?_
              refine W (eAsg rfl rfl) rfl ?_
              refine wo_end ?_
              exact ⟨law07_TreeWitnesses_t6 false, by kernel_rfl, false, hF, rfl⟩
          · refine Wn rfl rfl c8 rfl ?_
            refine Wn rfl rfl c8 rfl ?_
            refine Wn rfl rfl c8 rfl ?_
            refine Wn rfl rfl c8 rfl ?_
            refine Wn rfl rfl c8 rfl ?_
            refine Wn rfl rfl c8 rfl ?_
            refine W (ePickF rfl c8 rfl) rfl ?_
            refine W (eMove rfl rfl) rfl ?_
            refine Wn rfl rfl rfl rfl ?_
            refine W (ePickF rfl rfl rfl) rfl ?_
            refine W (eAsg rfl rfl) rfl ?_
            refine wo_end ?_
            exact ⟨law07_TreeWitnesses_t6 false, by kernel_rfl, false, hF, rfl⟩
        · refine Wn rfl rfl c7 rfl ?_
          refine Wn rfl rfl c7 rfl ?_
          refine W (ePickF rfl c7 rfl) rfl ?_
          refine W (eMove rfl rfl) rfl ?_
          refine Wn rfl rfl rfl rfl ?_
          refine Wn rfl rfl rfl rfl ?_
          refine Wn rfl rfl rfl rfl ?_
          refine Wn rfl rfl rfl rfl ?_
          refine Wn rfl rfl rfl rfl ?_
          refine Wn rfl rfl rfl rfl ?_
          refine W (ePickF rfl rfl rfl) rfl ?_
          refine W (eMove rfl rfl) rfl ?_
          refine Wn rfl rfl rfl rfl ?_
          refine W (ePickF rfl rfl rfl) rfl ?_
          refine W (eAsg rfl rfl) rfl ?_
          refine wo_end ?_
          exact ⟨law07_TreeWitnesses_t6 false, by kernel_rfl, false, hF, rfl⟩
      · rintro s ⟨x2, hF, rfl⟩
        unfold law07_TreeWitnesses_q6 at hF
        refine wp_ret ?_
        cases hF; exact (And.intro (.inr rfl) (finG rfl rfl (mapC rfl mapN) (fvD rfl ty4 rfl dD fvN) (by kernel_rfl)))
    · refine wp_skip ?_
      refine wR rfl rfl ?_
      refine W (eLdP rfl rfl ty26 rfl rfl) rfl ?_
      obtain ⟨r168, e11, hF⟩ := bind_some hF
      refine W (eCall rfl rfl (callS fn12 rfl rfl (hoD rfl ty26 rfl dD hoN) rfl rfl (ref07_Fewest_ok e11))) rfl ?_
      refine W (eMove rfl rfl) rfl ?_
      refine W (eExt rfl rfl) rfl ?_
      refine W (eExt rfl rfl) rfl ?_
      refine W (eAsg rfl rfl) rfl ?_
      refine W (eAsg rfl rfl) rfl ?_
      refine wo_end ?_
      refine wp_seq ?_
      refine wR rfl rfl ?_
      refine W (eMove rfl rfl) rfl ?_
      refine W (eBin rfl rfl rfl) rfl ?_
      refine wo_end ?_
      refine wIf hF rfl (fun c12 hF => ?_) (fun c12 hF => ?_)
      · refine wRq (M := fun s => ∃ x2b, law07_TreeWitnesses_q9 x2b = some r ∧ s = law07_TreeWitnesses_t9 x2b) rfl ?_ ?_
        · refine W (eMove rfl rfl) rfl ?_
          refine W (eBin rfl rfl rfl) rfl ?_
          refine W (eMove rfl rfl) rfl ?_
          refine ifT hF (fun c13 hF => ?_) (fun c13 hF => ?_)
          · refine Wy rfl rfl c13 (eMove rfl rfl) rfl ?_
            refine Wy rfl rfl c13 (eUn rfl rfl) rfl ?_
            refine W (ePickT rfl c13 rfl) rfl ?_
            refine W (eMove rfl rfl) rfl ?_
            refine ifT hF (fun c14 hF => ?_) (fun c14 hF => ?_)
            · refine Wy rfl rfl c14 (eMove rfl rfl) rfl ?_
              refine Wy rfl rfl c14 (eLen rfl rfl (lenD (isSliceOf ty22 rfl))) rfl ?_
              refine Wy rfl rfl c14 (eMove rfl rfl) rfl ?_
              refine Wy rfl rfl c14 (eLen rfl rfl (lenD (isSliceOf ty22 rfl))) rfl ?_
              refine Wy rfl rfl c14 (eBin rfl rfl rfl) rfl ?_
              refine Wy rfl rfl c14 (eBin rfl rfl rfl) rfl ?_
              refine W (ePickT rfl c14 rfl) rfl ?_
              refine W (eMove rfl rfl) rfl ?_
              refine ifT hF (fun c15 hF => ?_) (fun c15 hF => ?_)
              · obtain ⟨r352, e16, hF⟩ := bind_some hF
                refine Wy rfl rfl c15 (eCall rfl rfl (callS fn7 rfl rfl hoN rfl rfl (law07_known_ok e16))) rfl ?_
                refine W (ePickT rfl c15 rfl) rfl ?_
                refine W (eAsg rfl rfl) rfl ?_
                refine wo_end ?_
                exact ⟨law07_TreeWitnesses_t9 r352, by kernel_rfl, r352, hF, rfl⟩
              · refine Wn rfl rfl c15 rfl ?_
                refine W (ePickF rfl c15 rfl) rfl ?_
                refine W (eAsg rfl rfl) rfl ?_
                refine wo_end ?_
                exact ⟨law07_TreeWitnesses_t9 false, by kernel_rfl, false, hF, rfl⟩
            · refine Wn rfl rfl c14 rfl ?_
              refine Wn rfl rfl c14 rfl ?_
              refine Wn rfl rfl c14 rfl ?_
              refine Wn rfl rfl c14 rfl ?_
              refine Wn rfl rfl c14 rfl ?_
              refine Wn rfl rfl c14 rfl ?_
              refine W (ePickF rfl c14 rfl) rfl ?_
              refine W (eMove rfl rfl) rfl ?_
              refine Wn rfl rfl rfl rfl ?_
              refine W (ePickF rfl rfl rfl) rfl ?_
              refine W (eAsg rfl rfl) rfl ?_
              refine wo_end ?_
              exact ⟨law07_TreeWitnesses_t9 false, by kernel_rfl, false, hF, rfl⟩
          · refine Wn rfl rfl c13 rfl ?_
            refine Wn rfl rfl c13 rfl ?_
            refine W (ePickF rfl c13 rfl) rfl ?_
            refine W (eMove rfl rfl) rfl ?_
            refine Wn rfl rfl rfl rfl ?_
            refine Wn rfl rfl rfl rfl ?_
            refine Wn rfl rfl rfl rfl ?_
            refine Wn rfl rfl rfl rfl ?_
            refine Wn rfl rfl rfl rfl ?_
            refine Wn rfl rfl rfl rfl ?_
            refine W (ePickF rfl rfl rfl) rfl ?_
            refine W (eMove rfl rfl) rfl ?_
            refine Wn rfl rfl rfl rfl ?_
            refine W (ePickF rfl rfl rfl) rfl ?_
            refine W (eAsg rfl rfl) rfl ?_
            refine wo_end ?_
            exact ⟨law07_TreeWitnesses_t9 false, by kernel_rfl, false, hF, rfl⟩
        · rintro s ⟨x2b, hF, rfl⟩
          unfold law07_TreeWitnesses_q9 at hF
          refine wp_ret ?_
          cases hF; exact (And.intro (.inr rfl) (finG rfl rfl (mapC rfl mapN) (fvD rfl ty4 rfl dD fvN) (by kernel_rfl)))
      · refine wp_skip ?_
        refine wp_seq ?_
        refine wRq (M := fun s => ∃ x80, law07_TreeWitnesses_q10 x0 r40 x80 = some r ∧ s = law07_TreeWitnesses_t10 x0 r40 x80) rfl ?_ ?_
        · refine W (eMove rfl rfl) rfl ?_
          refine W (eBin rfl rfl rfl) rfl ?_
          refine W (eMove rfl rfl) rfl ?_
          refine ifT hF (fun c17 hF => ?_) (fun c17 hF => ?_)
          · refine Wn rfl rfl c17 rfl ?_
            refine Wn rfl rfl c17 rfl ?_
            refine Wn rfl rfl c17 rfl ?_
            refine W (ePickT rfl c17 rfl) rfl ?_
            refine W (eMove rfl rfl) rfl ?_
            refine Wn rfl rfl rfl rfl ?_
            refine Wn rfl rfl rfl rfl ?_
            refine Wn rfl rfl rfl rfl ?_
            refine Wn rfl rfl rfl rfl ?_
            refine W (ePickT rfl rfl rfl) rfl ?_
            refine wo_end ?_
            exact ⟨law07_TreeWitnesses_t10 x0 r40 true, by kernel_rfl, true, hF, rfl⟩
          · refine Wy rfl rfl c17 (eMove rfl rfl) rfl ?_
            refine Wy rfl rfl c17 (eMove rfl rfl) rfl ?_
            refine Wy rfl rfl c17 (eBin rfl rfl (bNeB (kindOfTy ty4 rfl))) rfl ?_
            refine W (ePickF rfl c17 rfl) rfl ?_
            refine W (eMove rfl rfl) rfl ?_
            refine ifT hF (fun c18 hF => ?_) (fun c18 hF => ?_)
            · refine Wn rfl rfl c18 rfl ?_
              refine Wn rfl rfl c18 rfl ?_
              refine Wn rfl rfl c18 rfl ?_
              refine Wn rfl rfl c18 rfl ?_
              refine W (ePickT rfl c18 rfl) rfl ?_
              refine wo_end ?_
              exact ⟨law07_TreeWitnesses_t10 x0 r40 true, by kernel_rfl, true, hF, rfl⟩
            · refine Wy rfl rfl c18 (eMove rfl rfl) rfl ?_
              refine Wy rfl rfl c18 (eLen rfl rfl (lenD (isSliceOf ty22 rfl))) rfl ?_
              refine Wy rfl rfl c18 (eMove rfl rfl) rfl ?_
              refine Wy rfl rfl c18 (eBin rfl rfl rfl) rfl ?_
              refine W (ePickF rfl c18 rfl) rfl ?_
              refine wo_end ?_
              exact ⟨law07_TreeWitnesses_t10 x0 r40 (((r40.1.length : Nat) : Int) != r168.1), by kernel_rfl, (((r40.1.length : Nat) : Int) != r168.1), hF, rfl⟩
        · rintro s ⟨x80, hF, rfl⟩
          unfold law07_TreeWitnesses_q10 at hF
          refine wIf hF rfl (fun c19 hF => ?_) (fun c19 hF => ?_)
          · refine wR rfl rfl ?_
            refine W (eAsg rfl rfl) rfl ?_
            refine wo_end ?_
            refine wp_ret ?_
            cases hF; exact (And.intro (.inr rfl) (finG rfl rfl (mapC rfl mapN) (fvD rfl ty4 rfl dD fvN) (by kernel_rfl)))
          · refine wp_skip ?_
            refine wp_seq ?_
            refine wR rfl rfl ?_
            refine W (eMove rfl rfl) rfl ?_
            refine W (eUn rfl rfl) rfl ?_
            refine wo_end ?_
            refine wIf hF rfl (fun c20 hF => ?_) (fun c20 hF => ?_)
            · refine wRq (M := fun s => ∃ x2c, law07_TreeWitnesses_q13 x2c = some r ∧ s = law07_TreeWitnesses_t13 x2c) rfl ?_ ?_
              · refine W (eMove rfl rfl) rfl ?_
                refine W (eLen rfl rfl (lenD (isSliceOf ty22 rfl))) rfl ?_
                refine W (eBin rfl rfl rfl) rfl ?_
                refine W (eMove rfl rfl) rfl ?_
                refine ifT hF (fun c21 hF => ?_) (fun c21 hF => ?_)
                · obtain ⟨r49, e22, hF⟩ := bind_some hF
                  refine Wy rfl rfl c21 (eCall rfl rfl (callS fn7 rfl rfl hoN rfl rfl (law07_known_ok e22))) rfl ?_
                  refine W (ePickT rfl c21 rfl) rfl ?_
                  refine W (eAsg rfl rfl) rfl ?_
                  refine wo_end ?_
                  exact ⟨law07_TreeWitnesses_t13 r49, by kernel_rfl, r49, hF, rfl⟩
                · refine Wn rfl rfl c21 rfl ?_
                  refine W (ePickF rfl c21 rfl) rfl ?_
                  refine W (eAsg rfl rfl) rfl ?_
                  refine wo_end ?_
                  exact ⟨law07_TreeWitnesses_t13 false, by kernel_rfl, false, hF, rfl⟩
              · rintro s ⟨x2c, hF, rfl⟩
                unfold law07_TreeWitnesses_q13 at hF
                refine wp_ret ?_
                cases hF; exact (And.intro (.inr rfl) (finG rfl rfl (mapC rfl mapN) (fvD rfl ty4 rfl dD fvN) (by kernel_rfl)))
            · refine wp_skip ?_
              refine wR rfl rfl ?_
              refine W (eLdP rfl rfl ty26 rfl rfl) rfl ?_
              refine W (eMove rfl rfl) rfl ?_
              refine W (eMove rfl rfl) rfl ?_
              obtain ⟨r41, e23, hF⟩ := bind_some hF
              refine W (eCall rfl rfl (callS fn9 rfl rfl (hoD rfl ty26 rfl dD (hoD rfl ty22 rfl dD (hoD rfl ty22 rfl dD hoN))) rfl rfl (ref07_Accepts_ok e23))) rfl ?_
              refine W (eMove rfl rfl) rfl ?_
              refine W (eExt rfl rfl) rfl ?_
              refine W (eExt rfl rfl) rfl ?_
              refine W (eAsg rfl rfl) rfl ?_
              refine W (eAsg rfl rfl) rfl ?_
              refine wo_end ?_
              refine wRq (M := fun s => ∃ x2d, law07_TreeWitnesses_q15 x2d = some r ∧ s = law07_TreeWitnesses_t15 x2d) rfl ?_ ?_
              · refine W (eMove rfl rfl) rfl ?_
                refine W (eBin rfl rfl rfl) rfl ?_
                refine W (eMove rfl rfl) rfl ?_
                refine ifT hF (fun c24 hF => ?_) (fun c24 hF => ?_)
                · refine Wy rfl rfl c24 (eMove rfl rfl) rfl ?_
                  refine W (ePickT rfl c24 rfl) rfl ?_
                  refine W (eMove rfl rfl) rfl ?_
                  refine ifT hF (fun c25 hF => ?_) (fun c25 hF => ?_)
                  · obtain ⟨r137, e26, hF⟩ := bind_some hF
                    refine Wy rfl rfl c25 (eCall rfl rfl (callS fn7 rfl rfl hoN rfl rfl (law07_known_ok e26))) rfl ?_
                    refine W (ePickT rfl c25 rfl) rfl ?_
                    refine W (eAsg rfl rfl) rfl ?_
                    refine wo_end ?_
                    exact ⟨law07_TreeWitnesses_t15 r137, by kernel_rfl, r137, hF, rfl⟩
                  · refine Wn rfl rfl c25 rfl ?_
                    refine W (ePickF rfl c25 rfl) rfl ?_
                    refine W (eAsg rfl rfl) rfl ?_
                    refine wo_end ?_
                    exact ⟨law07_TreeWitnesses_t15 false, by kernel_rfl, false, hF, rfl⟩
                · refine Wn rfl rfl c24 rfl ?_
                  refine W (ePickF rfl c24 rfl) rfl ?_
                  refine W (eMove rfl rfl) rfl ?_
                  refine Wn rfl rfl rfl rfl ?_
                  refine W (ePickF rfl rfl rfl) rfl ?_
                  refine W (eAsg rfl rfl) rfl ?_
                  refine wo_end ?_
                  exact ⟨law07_TreeWitnesses_t15 false, by kernel_rfl, false, hF, rfl⟩
              · rintro s ⟨x2d, hF, rfl⟩
                unfold law07_TreeWitnesses_q15 at hF
                refine wp_ret ?_
                cases hF; exact (And.intro (.inr rfl) (finG rfl rfl (mapC rfl mapN) (fvD rfl ty4 rfl dD fvN) (by kernel_rfl)))

end Go.Lite.Fam
end

section
/-
  LITE 84: plain laws about printed functions: numbers, loops.
-/
set_option linter.unusedVariables false
set_option linter.unusedSimpArgs false
namespace Go.Lite
open Go

/-! ### Numbers -/
theorem wrap64 {n : Int} (h0 : -9223372036854775808 ≤ n) (h1 : n < 9223372036854775808) : IntKind.i64.wrap n = n := by
  simp [IntKind.wrap, IntKind.bits, IntKind.signed]
  split <;> omega
theorem wrapU {n : Int} (h0 : 0 ≤ n) (h1 : n < 18446744073709551616) : IntKind.u64.wrap n = n := by
  simp [IntKind.wrap, IntKind.bits, IntKind.signed]
  omega
theorem wrapS {i : Nat} (h : i < 4611686018427387904) : IntKind.i64.wrap ((i : Int) + 1) = ((i + 1 : Nat) : Int) := by
  rw [wrap64 (by omega) (by omega)]; rfl
theorem wrapP {i : Nat} (h : i < 4611686018427387904) : IntKind.i64.wrap (((i + 1 : Nat) : Int) - 1) = (i : Int) := by
  rw [wrap64 (by omega) (by omega)]; omega
theorem wrapP1 {i : Nat} (h : i < 4611686018427387904) : IntKind.i64.wrap ((i : Int) - 1) = (i : Int) - 1 := wrap64 (by omega) (by omega)

/-! ### Lists -/
theorem getDi {α : Type} {l : List α} {i : Nat} (h : i < l.length) (z : α) : l.getD ((i : Int)).toNat z = l[i] := by
  rw [Int.toNat_natCast, List.getD_eq_getElem?_getD, List.getElem?_eq_getElem h]; rfl
theorem getDn {α : Type} {l : List α} {i : Nat} (h : i < l.length) (z : α) : l.getD i z = l[i] := by
  rw [List.getD_eq_getElem?_getD, List.getElem?_eq_getElem h]; rfl
theorem foldlT {α β : Type} (f : β → α → β) (l : List α) (a : β) (i : Nat) (hi : i < l.length) : (l.take (i + 1)).foldl f a = f ((l.take i).foldl f a) l[i] := by
  rw [List.take_add_one, List.foldl_append, List.getElem?_eq_getElem hi]; rfl
theorem allT {α : Type} (p : α → Bool) (l : List α) (i : Nat) (hi : i < l.length) : (l.take (i + 1)).all p = ((l.take i).all p && p l[i]) := by
  rw [List.take_add_one, List.getElem?_eq_getElem hi, List.all_append]; simp only [Option.toList, List.all_cons, List.all_nil, Bool.and_true]

theorem ltIf {α β : Type} {l : List α} {i : Nat} (h : i < l.length) {x y : Option β} : (if decide ((i : Int) < ((l.length : Nat) : Int)) = true then x else y) = x := if_pos (by simpa using h)
theorem gdIx {α β : Type} {l : List α} {i : Nat} (h : i < l.length) {x : Option β} : gd (0 ≤ (i : Int) ∧ (i : Int) < ((l.length : Nat) : Int)) x = x := gd_pos ⟨by omega, by omega⟩
theorem ltEnd {α β : Type} {l : List α} {x y : Option β} : (if decide (((l.length : Nat) : Int) < ((l.length : Nat) : Int)) = true then x else y) = y := if_neg (by simp)

/-! ### Loops -/
section
variable {X E : Type} {body : X → Option (X ⊕ E)}
/-- The states one after another, and the end. -/
theorem loop_steps (n : Nat) (st : Nat → X) {e : E} (hs : ∀ i, i < n → body (st i) = some (.inl (st (i + 1)))) (he : body (st n) = some (.inr e)) : loopP body (st 0) = some e := by
  have key : ∀ k, k ≤ n → loopP body (st (n - k)) = some e := by
    intro k
    induction k with
    | zero => intro _; rw [loopP_eq, Nat.sub_zero, he]; rfl
    | succ k ih =>
      intro hk
      rw [loopP_eq, hs (n - (k + 1)) (by omega)]
      have : n - (k + 1) + 1 = n - k := by omega
      rw [this]
      exact ih (by omega)
  have := key n (Nat.le_refl n)
  rwa [Nat.sub_self] at this
/-- A loop with a measure, for what holds at its end. -/
theorem loop_inv {Inv : X → Prop} {Post : E → Prop} (μ : X → Nat) (h : ∀ x, Inv x → (∃ x', body x = some (.inl x') ∧ Inv x' ∧ μ x' < μ x) ∨ ∃ e, body x = some (.inr e) ∧ Post e) : ∀ x, Inv x → ∃ e, loopP body x = some e ∧ Post e := by
  have key : ∀ n x, μ x ≤ n → Inv x → ∃ e, loopP body x = some e ∧ Post e := by
    intro n
    induction n with
    | zero =>
      intro x hx hi
      rcases h x hi with ⟨x', _, _, hlt⟩ | ⟨e, he, hp⟩
      · omega
      · exact ⟨e, by rw [loopP_eq, he]; rfl, hp⟩
    | succ n ih =>
      intro x hx hi
      rcases h x hi with ⟨x', hb, hi', hlt⟩ | ⟨e, he, hp⟩
      · obtain ⟨e, he, hp⟩ := ih x' (by omega) hi'
        exact ⟨e, by rw [loopP_eq, hb]; exact he, hp⟩
      · exact ⟨e, by rw [loopP_eq, he]; rfl, hp⟩
  exact fun x hi => key (μ x) x (Nat.le_refl _) hi
/-- Over a list from its first element on. -/
theorem loop_fold {α σ : Type} (l : List α) (f : σ → α → σ) (mk : σ → Int → X) (out : σ → E) (Inv : Nat → σ → Prop) {s0 : σ} (hl : l.length < 4611686018427387904) (h0 : Inv 0 s0)
    (hs : ∀ i s (h : i < l.length), Inv i s → body (mk s i) = some (.inl (mk (f s l[i]) (IntKind.i64.wrap ((i : Int) + 1)))) ∧ Inv (i + 1) (f s l[i])) (he : ∀ s, Inv l.length s → body (mk s (l.length : Nat)) = some (.inr (out s))) :
    loopP body (mk s0 0) = some (out (l.foldl f s0)) ∧ Inv l.length (l.foldl f s0) := by
  have hinv : ∀ i, i ≤ l.length → Inv i ((l.take i).foldl f s0) := by
    intro i
    induction i with
    | zero => intro _; exact h0
    | succ i ih =>
      intro hi
      rw [foldlT f l s0 i hi]
      exact (hs i _ hi (ih (by omega))).2
  have hend := hinv l.length (Nat.le_refl _)
  rw [List.take_length] at hend
  refine ⟨?_, hend⟩
  refine loop_steps l.length (fun i => mk ((l.take i).foldl f s0) (i : Nat)) (fun i hi => ?_) ?_
  · have := (hs i _ hi (hinv i (by omega))).1
    rw [wrapS (by omega)] at this
    rw [foldlT f l s0 i hi]
    exact this
  · rw [List.take_length]
    exact he _ hend
end
/-- Every element is asked; the first that fails ends it. -/
theorem loop_all {α β γ : Type} {body : Int → Option (Int ⊕ (γ ⊕ β))} (l : List α) (p : α → Bool) (good : γ) (bad : β) (hl : l.length < 4611686018427387904)
    (hs : ∀ i (h : i < l.length), body (i : Int) = if p l[i] = true then some (.inl (IntKind.i64.wrap ((i : Int) + 1))) else some (.inr (.inr bad))) (he : body (l.length : Nat) = some (.inr (.inl good))) :
    loopP body 0 = some (if l.all p = true then .inl good else .inr bad) := by
  cases hall : l.all p with
  | true =>
    refine loop_steps l.length (fun i => ((i : Nat) : Int)) (fun i hi => ?_) (by simpa using he)
    have : p l[i] = true := List.all_eq_true.1 hall _ (List.getElem_mem hi)
    rw [hs i hi, if_pos this, wrapS (by omega)]
  | false =>
    -- the first one that fails
    obtain ⟨i, hi, hb, hlt⟩ : ∃ i, ∃ hi : i < l.length, p l[i] = false ∧ ∀ j, j < i → ∀ hj : j < l.length, p l[j] = true := by
      clear hs he hl
      induction l with
      | nil => cases hall
      | cons a l ih =>
        cases ha : p a with
        | false => exact ⟨0, by simp, by simpa using ha, fun j hj => by omega⟩
        | true =>
          simp only [List.all_cons, ha, Bool.true_and] at hall
          obtain ⟨i, hi, hb, hlt⟩ := ih hall
          refine ⟨i + 1, by simpa using hi, by simpa using hb, fun j hj hj' => ?_⟩
          cases j with
          | zero => simpa using ha
          | succ j => simpa using hlt j (by omega) (by simpa using hj')
    refine loop_steps i (fun i => ((i : Nat) : Int)) (fun j hj => ?_) ?_
    · have hjl : j < l.length := by omega
      rw [hs j hjl, if_pos (hlt j hj hjl), wrapS (by omega)]
    · rw [hs i hi, if_neg (by simp [hb])]; rfl

/-! ### Bits -/
/-- A number of 64 bits as a set. -/
def bitAt (s : Int) (q : Nat) : Bool := s.toNat.testBit q
theorem ofInt_nat {n : Nat} (hn : n < 18446744073709551616) : (BitVec.ofInt 64 (n : Int)).toNat = n := by
  rw [BitVec.toNat_ofInt]
  have : ((n : Int) % (18446744073709551616 : Nat)).toNat = n := by omega
  exact this
theorem bits_and {a b : Nat} (ha : a < 18446744073709551616) (hb : b < 18446744073709551616) : bitsInt .and .u64 (a : Int) (b : Int) = ((a &&& b : Nat) : Int) := by
  show IntKind.u64.wrap (((BitVec.ofInt 64 (a : Int) &&& BitVec.ofInt 64 (b : Int)).toNat : Nat) : Int) = _
  rw [BitVec.toNat_and, ofInt_nat ha, ofInt_nat hb]
  have : a &&& b ≤ a := Nat.and_le_left
  generalize a &&& b = c at this
  exact wrapU (by omega) (by omega)
theorem bits_or {a b : Nat} (ha : a < 18446744073709551616) (hb : b < 18446744073709551616) : bitsInt .or .u64 (a : Int) (b : Int) = ((a ||| b : Nat) : Int) := by
  show IntKind.u64.wrap (((BitVec.ofInt 64 (a : Int) ||| BitVec.ofInt 64 (b : Int)).toNat : Nat) : Int) = _
  rw [BitVec.toNat_or, ofInt_nat ha, ofInt_nat hb]
  have : a ||| b < 2 ^ 64 := Nat.or_lt_two_pow ha hb
  have : a ||| b < 18446744073709551616 := this
  generalize a ||| b = c at this
  exact wrapU (by omega) (by omega)
theorem andOne {s : Int} {q : Nat} (h0 : 0 ≤ s) (h1 : s < 18446744073709551616) (hq : q ≤ 64) : (bitsInt .and .u64 (s.fdiv (2 ^ min q 64)) 1 == 1) = bitAt s q := by
  obtain ⟨n, rfl⟩ : ∃ n : Nat, s = (n : Int) := ⟨s.toNat, by omega⟩
  have hm : min q 64 = q := by omega
  have hd : ((n : Int).fdiv (2 ^ min q 64)) = ((n / 2 ^ q : Nat) : Int) := by
    rw [hm]
    have : ((2 : Int) ^ q) = ((2 ^ q : Nat) : Int) := by simp
    rw [this, Int.ofNat_fdiv]
  rw [hd]
  have hlt : n / 2 ^ q < 18446744073709551616 := Nat.lt_of_le_of_lt (Nat.div_le_self _ _) (by omega)
  rw [bitAt, Int.toNat_natCast, Nat.testBit, Nat.shiftRight_eq_div_pow]
  generalize n / 2 ^ q = k at hlt
  rw [show (1 : Int) = ((1 : Nat) : Int) from rfl, bits_and hlt (by decide)]
  rw [Nat.and_comm 1]
  have h4 : k &&& 1 ≤ 1 := Nat.and_le_right
  generalize k &&& 1 = b at h4
  have : b = 0 ∨ b = 1 := by omega
  rcases this with rfl | rfl <;> decide
theorem orBit {s : Int} {q : Nat} (h0 : 0 ≤ s) (h1 : s < 18446744073709551616) (hq : q < 64) :
    (0 ≤ bitsInt .or .u64 s (IntKind.u64.wrap (1 * 2 ^ min q 64)) ∧ bitsInt .or .u64 s (IntKind.u64.wrap (1 * 2 ^ min q 64)) < 18446744073709551616) ∧ ∀ p, bitAt (bitsInt .or .u64 s (IntKind.u64.wrap (1 * 2 ^ min q 64))) p = (bitAt s p || p == q) := by
  obtain ⟨n, rfl⟩ : ∃ n : Nat, s = (n : Int) := ⟨s.toNat, by omega⟩
  have hm : min q 64 = q := by omega
  have hp : (2 : Nat) ^ q < 2 ^ 64 := Nat.pow_lt_pow_right (by omega) hq
  have hp' : (2 : Nat) ^ q < 18446744073709551616 := hp
  have hw : IntKind.u64.wrap (1 * 2 ^ min q 64) = ((2 ^ q : Nat) : Int) := by
    have : (1 * 2 ^ min q 64 : Int) = ((2 ^ q : Nat) : Int) := by rw [hm]; simp
    rw [this]
    generalize (2 : Nat) ^ q = k at hp'
    exact wrapU (by omega) (by omega)
  have hn : n < 18446744073709551616 := by omega
  have hor : n ||| 2 ^ q < 2 ^ 64 := Nat.or_lt_two_pow hn hp'
  have hor' : n ||| 2 ^ q < 18446744073709551616 := hor
  rw [hw, bits_or hn hp']
  refine ⟨⟨Int.natCast_nonneg _, by generalize n ||| 2 ^ q = k at hor'; omega⟩, fun p => ?_⟩
  simp only [bitAt, Int.toNat_natCast, Nat.testBit_or, Nat.testBit_two_pow]
  congr 1
  rw [Bool.eq_iff_iff]
  simp
  exact eq_comm
end Go.Lite
end

section
/-
  PURE A: what the printed functions on automata and trees compute: validity of automata and of trees.
-/
set_option linter.unusedVariables false
set_option linter.unusedSimpArgs false
namespace Go.Lite.Fam
open Go Go.Lite

abbrev Aut := T_api_TreeAutomaton
def okA (A : Aut) (q : Int) : Bool := decide (0 ≤ q ∧ q < A.2.1)
def okX (A : Aut) (x : Int) : Bool := decide (0 ≤ x ∧ x < A.1)
def okL (A : Aut) (l : T_api_Leaf) : Bool := okX A l.1 && okA A l.2.1
def okB (A : Aut) (b : T_api_Branch) : Bool := okX A b.1 && okA A b.2.1 && okA A b.2.2.1 && okA A b.2.2.2.1
def okTop (A : Aut) : Bool := decide (1 ≤ A.1 ∧ A.1 ≤ 8 ∧ 0 ≤ A.2.1 ∧ A.2.1 ≤ 64)
/-- Is the automaton valid? -/
def okAut (A : Aut) : Bool := okTop A && A.2.2.1.all (okA A) && A.2.2.2.1.all (okL A) && A.2.2.2.2.1.all (okB A)
def errA (A : Aut) : Int := if okAut A = true then 0 else 1
/-- Lists that are not too long. -/
def small (A : Aut) : Prop := A.2.2.1.length < 4611686018427387904 ∧ A.2.2.2.1.length < 4611686018427387904 ∧ A.2.2.2.2.1.length < 4611686018427387904

theorem val2 {n : Int} {A : Aut} : tree_Validate_2 n A.1 A.2.1 A.2.2.1 A.2.2.2.1 A.2.2.2.2.1 = some (okA A n) := by
  unfold tree_Validate_2 tree_Validate_2_q1 okA
  by_cases h : (0 : Int) ≤ n <;> simp [h]
theorem val1 {n : Int} {A : Aut} : tree_Validate_1 n A.1 A.2.1 A.2.2.1 A.2.2.2.1 A.2.2.2.2.1 = some (okX A n) := by
  unfold tree_Validate_1 tree_Validate_1_q1 okX
  by_cases h : (0 : Int) ≤ n <;> simp [h]

theorem tree_Validate_eq {A : Aut} (hs : small A) : tree_Validate A = some (errA A) := by
  obtain ⟨h1, h2, h3⟩ := hs
  have la := loop_all (body := tree_Validate_l6 A) A.2.2.1 (okA A) () (1 : Int) h1 (fun i h => by
    simp only [tree_Validate_l6, ltIf h, gdIx h, if_true, getDi h, val2, Option.bind_some]
    rcases Bool.eq_false_or_eq_true (okA A A.2.2.1[i]) with e0 | e0 <;> simp [e0]) (by simp [tree_Validate_l6])
  have ll := loop_all (body := tree_Validate_l12 A) A.2.2.2.1 (okL A) () (1 : Int) h2 (fun i h => by
    simp only [tree_Validate_l12, ltIf h, gdIx h, if_true, getDi h, val1, val2, Option.bind_some, tree_Validate_q14, okL]
    rcases Bool.eq_false_or_eq_true (okX A A.2.2.2.1[i].1) with e0 | e0 <;> rcases Bool.eq_false_or_eq_true (okA A A.2.2.2.1[i].2.1) with e1 | e1 <;> simp [e0, e1]) (by simp [tree_Validate_l12])
  have lb := loop_all (body := tree_Validate_l18 A) A.2.2.2.2.1 (okB A) () (1 : Int) h3 (fun i h => by
    simp only [tree_Validate_l18, ltIf h, gdIx h, if_true, getDi h, val1, val2, Option.bind_some, tree_Validate_q20, okB]
    rcases Bool.eq_false_or_eq_true (okX A A.2.2.2.2.1[i].1) with e0 | e0 <;> rcases Bool.eq_false_or_eq_true (okA A A.2.2.2.2.1[i].2.1) with e1 | e1 <;> rcases Bool.eq_false_or_eq_true (okA A A.2.2.2.2.1[i].2.2.1) with e2 | e2 <;> rcases Bool.eq_false_or_eq_true (okA A A.2.2.2.2.1[i].2.2.2.1) with e3 | e3 <;> simp [e0, e1, e2, e3]) (by simp [tree_Validate_l18])
  have q : ∀ b, b = !okTop A → tree_Validate_q1 A b = some (errA A) := by
    intro b hb
    subst hb
    unfold tree_Validate_q1 errA okAut
    rw [la, ll, lb]
    cases okTop A <;> cases A.2.2.1.all (okA A) <;> cases A.2.2.2.1.all (okL A) <;> cases A.2.2.2.2.1.all (okB A) <;> rfl
  unfold tree_Validate
  by_cases e1 : A.1 < 1
  · rw [if_pos (by simpa using e1), q true (by simp [okTop]; omega)]
  · rw [if_neg (by simpa using e1)]
    by_cases e2 : A.1 > 8
    · rw [if_pos (by simpa using e2), q true (by simp [okTop]; omega)]
    · rw [if_neg (by simpa using e2)]
      by_cases e3 : A.2.1 < 0
      · rw [if_pos (by simpa using e3), q true (by simp [okTop]; omega)]
      · rw [if_neg (by simpa using e3), q _ (by rw [Bool.eq_iff_iff]; simp [okTop]; omega)]

theorem within_eq {n lo hi : Int} : ref07_within n lo hi = some (decide (lo ≤ n ∧ n ≤ hi)) := by
  unfold ref07_within ref07_within_q1
  by_cases h : lo ≤ n <;> simp [h]
theorem within0 {n m : Int} (hm : 0 ≤ m) (hm2 : m ≤ 64) : ref07_within n 0 (IntKind.i64.wrap (m - 1)) = some (decide (0 ≤ n ∧ n < m)) := by
  rw [within_eq, wrap64 (by omega) (by omega)]
  congr 1
  rw [Bool.eq_iff_iff]
  simp; omega

theorem ref07_Validate_eq {A : Aut} (hs : small A) : ref07_Validate A = some (errA A) := by
  obtain ⟨h1, h2, h3⟩ := hs
  unfold ref07_Validate
  simp only [within_eq, Option.bind_some]
  cases ht : okTop A with
  | false =>
    have he : errA A = 1 := by simp [errA, okAut, ht]
    rw [he]
    simp only [okTop, decide_eq_false_iff_not] at ht
    by_cases e : 1 ≤ A.1 ∧ A.1 ≤ 8
    · simp only [e, and_self, decide_true, Bool.not_true, Bool.false_eq_true, if_false, ref07_Validate_q1]
      rw [if_pos (by simp; omega)]
    · simp only [e, decide_false, Bool.not_false, if_true, ref07_Validate_q1]
  | true =>
    have ht' := ht
    simp only [okTop, decide_eq_true_eq] at ht'
    obtain ⟨t1, t2, t3, t4⟩ := ht'
    have wX : ∀ n, ref07_within n 0 (IntKind.i64.wrap (A.1 - 1)) = some (okX A n) := fun n => within0 (by omega) (by omega)
    have wA : ∀ n, ref07_within n 0 (IntKind.i64.wrap (A.2.1 - 1)) = some (okA A n) := fun n => within0 (by omega) (by omega)
    have la := loop_all (body := ref07_Validate_l4 A) A.2.2.1 (okA A) () (1 : Int) h1 (fun i h => by
      simp only [ref07_Validate_l4, ltIf h, gdIx h, if_true, getDi h, wA, Option.bind_some]
      rcases Bool.eq_false_or_eq_true (okA A A.2.2.1[i]) with e0 | e0 <;> simp [e0]) (by simp [ref07_Validate_l4])
    have ll := loop_all (body := ref07_Validate_l9 A) A.2.2.2.1 (okL A) () (1 : Int) h2 (fun i h => by
      simp only [ref07_Validate_l9, ltIf h, gdIx h, if_true, getDi h, wX, wA, Option.bind_some, ref07_Validate_q11, okL]
      rcases Bool.eq_false_or_eq_true (okX A A.2.2.2.1[i].1) with e0 | e0 <;> rcases Bool.eq_false_or_eq_true (okA A A.2.2.2.1[i].2.1) with e1 | e1 <;> simp [e0, e1]) (by simp [ref07_Validate_l9])
    have lb := loop_all (body := ref07_Validate_l14 A) A.2.2.2.2.1 (okB A) () (1 : Int) h3 (fun i h => by
      simp only [ref07_Validate_l14, ltIf h, gdIx h, if_true, getDi h, wX, wA, Option.bind_some, ref07_Validate_q17, okB]
      rcases Bool.eq_false_or_eq_true (okX A A.2.2.2.2.1[i].1) with e0 | e0 <;> rcases Bool.eq_false_or_eq_true (okA A A.2.2.2.2.1[i].2.1) with e1 | e1 <;> rcases Bool.eq_false_or_eq_true (okA A A.2.2.2.2.1[i].2.2.1) with e2 | e2 <;> rcases Bool.eq_false_or_eq_true (okA A A.2.2.2.2.1[i].2.2.2.1) with e3 | e3 <;> simp [e0, e1, e2, e3]) (by simp [ref07_Validate_l14])
    have d1 : decide (1 ≤ A.1 ∧ A.1 ≤ 8) = true := by simp; omega
    have d2 : decide (0 ≤ A.2.1 ∧ A.2.1 ≤ 64) = true := by simp; omega
    simp only [d1, d2, Bool.not_true, Bool.false_eq_true, if_false, ref07_Validate_q1]
    unfold errA okAut
    rw [la, ll, lb, ht]
    cases A.2.2.1.all (okA A) <;> cases A.2.2.2.1.all (okL A) <;> cases A.2.2.2.2.1.all (okB A) <;> rfl

/-! ### Trees -/
def shapeStep (o : Option Int) (c : Int) : Option Int := match o with
  | some op => if op = 0 ∨ (c ≠ 0 ∧ c ≠ 2) then none else some (op + (c - 1))
  | none => none
/-- How many subtrees are still to come. -/
def shapeRun (l : List Int) : Option Int := l.foldl shapeStep (some 1)
def shapeOk (l : List Int) : Bool := match shapeRun l with
  | some op => op == 0
  | none => false
def okLab (letters x : Int) : Bool := decide (0 ≤ x ∧ x < letters)
def okTree (letters : Int) (shape labels : List Int) : Bool := decide (1 ≤ shape.length ∧ shape.length ≤ 4095 ∧ labels.length = shape.length) && shapeOk shape && labels.all (okLab letters)
theorem shape_none : ∀ l : List Int, l.foldl shapeStep none = none
  | [] => rfl
  | _ :: l => shape_none l
theorem shapeRun_take {l : List Int} {i : Nat} (hi : i < l.length) : shapeRun (l.take (i + 1)) = shapeStep (shapeRun (l.take i)) l[i] := foldlT _ _ _ _ hi
theorem shapeRun_split {l : List Int} (i : Nat) : shapeRun l = (l.drop i).foldl shapeStep (shapeRun (l.take i)) := by
  unfold shapeRun
  rw [← List.foldl_append, List.take_append_drop]
theorem shapeRun_fail {l : List Int} {i : Nat} {op : Int} (hi : i < l.length) (h : shapeRun (l.take i) = some op) (hc : op = 0 ∨ (l[i] ≠ 0 ∧ l[i] ≠ 2)) : shapeRun l = none := by
  have h1 : shapeRun (l.take (i + 1)) = none := by rw [shapeRun_take hi, h]; simp [shapeStep, hc]
  rw [shapeRun_split (i + 1), h1, shape_none]
/-- The states of the run. -/
theorem shapeRun_bound : ∀ (l : List Int) (op : Int), shapeRun l = some op → 0 ≤ op ∧ op ≤ l.length + 1 := by
  intro l
  have key : ∀ i, i ≤ l.length → ∀ op, shapeRun (l.take i) = some op → 0 ≤ op ∧ op ≤ i + 1 := by
    intro i
    induction i with
    | zero => intro _ op h; simp [shapeRun] at h; omega
    | succ i ih =>
      intro hi op h
      rw [shapeRun_take hi] at h
      cases ho : shapeRun (l.take i) with
      | none => rw [ho] at h; cases h
      | some o =>
        rw [ho] at h
        have hb := ih (by omega) o ho
        simp only [shapeStep] at h
        split at h
        · cases h
        · injection h with h
          omega
  intro op h
  have := key l.length (Nat.le_refl _) op (by rwa [List.take_length])
  omega

/-- One pass over a shape: the loop of the code, where 'no' is what it says of a bad node. -/
theorem shape_loop {γ : Type} {body : (Int × Int) → Option ((Int × Int) ⊕ (Int ⊕ γ))} (sh : List Int) (hl : sh.length < 4611686018427387904) (bad : γ) (ok : Nat → Bool)
    (hs : ∀ (i : Nat) (op : Int) (h : i < sh.length), 0 ≤ op → op ≤ i + 1 → body (op, (i : Int)) = if (op = 0 ∨ (sh[i] ≠ 0 ∧ sh[i] ≠ 2)) ∨ ok i = false then some (.inr (.inr bad)) else some (.inl (op + (sh[i] - 1), IntKind.i64.wrap ((i : Int) + 1)))) (he : ∀ op, body (op, (sh.length : Nat)) = some (.inr (.inl op))) :
    loopP body (1, 0) = some (match shapeRun sh with | some op => if ∀ i, i < sh.length → ok i = true then .inl op else .inr bad | none => .inr bad) := by
  obtain ⟨e, h1, h2⟩ := loop_inv (body := body) (Inv := fun x => ∃ i : Nat, i ≤ sh.length ∧ x.2 = (i : Int) ∧ shapeRun (sh.take i) = some x.1 ∧ ∀ j, j < i → ok j = true) (Post := fun e => e = match shapeRun sh with | some op => if ∀ i, i < sh.length → ok i = true then .inl op else .inr bad | none => .inr bad)
    (fun x => sh.length - x.2.toNat) (by
      rintro ⟨op, x2⟩ ⟨i, hi, rfl, hrun, hok⟩
      simp only at hrun
      have hb := shapeRun_bound _ _ hrun
      rw [List.length_take] at hb
      by_cases hlt : i < sh.length
      · rw [hs i op hlt hb.1 (by omega)]
        by_cases hc : op = 0 ∨ (sh[i] ≠ 0 ∧ sh[i] ≠ 2)
        · right
          rw [if_pos (.inl hc)]
          exact ⟨_, rfl, by rw [shapeRun_fail hlt hrun hc]⟩
        · cases hk : ok i with
          | false =>
            right
            rw [if_pos (.inr rfl)]
            refine ⟨_, rfl, ?_⟩
            split
            · rw [if_neg]; intro h; rw [h i hlt] at hk; cases hk
            · rfl
          | true =>
            left
            rw [if_neg (by simp only [Bool.true_eq_false, or_false]; exact hc)]
            refine ⟨_, rfl, ⟨i + 1, hlt, wrapS (by omega), ?_, fun j hj => ?_⟩, ?_⟩
            · simp only [shapeRun_take hlt, hrun, shapeStep, if_neg hc]
            · by_cases hji : j = i
              · subst hji; exact hk
              · exact hok j (by omega)
            · simp only; rw [wrapS (by omega)]; omega
      · right
        have : i = sh.length := by omega
        subst this
        rw [he]
        refine ⟨_, rfl, ?_⟩
        rw [List.take_length] at hrun
        rw [hrun]
        simp only
        rw [if_pos hok]) (1, 0) ⟨0, Nat.zero_le _, rfl, rfl, fun j hj => by omega⟩
  rw [h1, h2]

theorem isShape_eq {sh : List Int} (hl : sh.length < 4611686018427387904) : ref03_IsShape sh = some (shapeOk sh) := by
  unfold ref03_IsShape
  rw [shape_loop (body := ref03_IsShape_l3 sh) sh hl false (fun _ => true) (fun i op h h0 h1 => by
    simp only [ref03_IsShape_l3, ltIf h, gdIx h, if_true, getDi h, ref03_IsShape_q5]
    by_cases e1 : op = 0
    · simp [e1]
    · by_cases e2 : sh[i] = 0
      · simp only [e1, e2, beq_iff_eq, if_false, bne_self_eq_false, Bool.false_eq_true, ne_eq, not_true_eq_false, false_and, or_self, Bool.true_eq_false]
        rw [wrap64 (n := (0 : Int) - 1) (by omega) (by omega), wrap64 (by omega) (by omega)]
      · by_cases e3 : sh[i] = 2
        · simp only [e1, e3, beq_iff_eq, if_false, bne_self_eq_false, Bool.false_eq_true, ne_eq, not_true_eq_false, and_false, or_self, Bool.true_eq_false]
          rw [wrap64 (n := (2 : Int) - 1) (by omega) (by omega), wrap64 (by omega) (by omega)]
          simp
        · simp [e1, e2, e3]) (fun op => by simp [ref03_IsShape_l3])]
  unfold shapeOk
  cases shapeRun sh <;> simp

theorem labs_loop {β : Type} (x : Int) (lb : List Int) : (∀ i, i < lb.length → (okLab x (lb.getD i 0)) = true) ↔ lb.all (okLab x) = true := by
  rw [List.all_eq_true]
  constructor
  · intro h y hy
    obtain ⟨i, hi, rfl⟩ := List.getElem_of_mem hy
    have := h i hi
    rwa [getDn hi] at this
  · intro h i hi
    rw [getDn hi]
    exact h _ (List.getElem_mem hi)

theorem refTree_eq {x : Int} {sh lb : List Int} (hs : sh.length < 4611686018427387904) (hl : lb.length < 4611686018427387904) : ref07_ValidTree x sh lb = some (okTree x sh lb) := by
  unfold ref07_ValidTree
  have ll := loop_all (body := ref07_ValidTree_l4 x lb) lb (okLab x) () false hl (fun i h => by
    simp only [ref07_ValidTree_l4, ltIf h, gdIx h, if_true, getDi h, ref07_ValidTree_q6, okLab]
    by_cases e1 : lb[i] < 0
    · simp [e1] <;> omega
    · by_cases e2 : lb[i] ≥ x
      · simp [e1, e2] <;> omega
      · simp [e1, e2] <;> omega) (by simp [ref07_ValidTree_l4])
  rw [within_eq, isShape_eq hs]
  simp only [Option.bind_some]
  unfold okTree
  by_cases e1 : 1 ≤ sh.length ∧ sh.length ≤ 4095
  · have e1' : (1 ≤ (sh.length : Int) ∧ (sh.length : Int) ≤ 4095) := by omega
    simp only [e1', and_self, decide_true, Bool.not_true, Bool.false_eq_true, if_false]
    by_cases e2 : lb.length = sh.length
    · simp only [e2, bne_self_eq_false, Bool.false_eq_true, if_false, ref07_ValidTree_q1, e1, and_self, decide_true, Bool.true_and]
      rw [ll]
      cases shapeOk sh <;> cases lb.all (okLab x) <;> rfl
    · have e2' : ((lb.length : Nat) : Int) ≠ ((sh.length : Nat) : Int) := by omega
      simp [e2, e2', ref07_ValidTree_q1]
  · have e1' : ¬ (1 ≤ (sh.length : Int) ∧ (sh.length : Int) ≤ 4095) := by omega
    have e3 : ¬ (1 ≤ sh.length ∧ sh.length ≤ 4095 ∧ lb.length = sh.length) := by omega
    simp only [e1', e3, decide_false, Bool.not_false, if_true, ref07_ValidTree_q1, Bool.false_and]

theorem validTree_eq {x : Int} {sh lb : List Int} (hs : sh.length < 4611686018427387904) (hl : lb.length < 4611686018427387904) : tree_ValidTree x sh lb = some (okTree x sh lb) := by
  unfold tree_ValidTree
  by_cases e1 : 1 ≤ sh.length ∧ sh.length ≤ 4095 ∧ lb.length = sh.length
  · obtain ⟨a1, a2, a3⟩ := e1
    rw [if_neg (by simp; omega), if_neg (by simp; omega)]
    have e4 : (((lb.length : Nat) : Int) != ((sh.length : Nat) : Int)) = false := by simp; omega
    rw [e4]
    unfold tree_ValidTree_q1
    rw [if_neg (by simp)]
    rw [shape_loop (body := tree_ValidTree_l5 x sh lb) sh hs false (fun i => okLab x (lb.getD i 0)) (fun i op h h0 h1 => by
      have h2 : i < lb.length := by omega
      simp only [tree_ValidTree_l5, ltIf h, gdIx h, if_true, gdIx h2, getDi h, getDi h2, getDn h2, tree_ValidTree_q7, okLab]
      by_cases e1 : op = 0
      · simp [e1]
      · by_cases e2 : sh[i] = 0
        · by_cases e4 : lb[i] < 0
          · simp [e1, e2, e4]; omega
          · by_cases e5 : lb[i] ≥ x
            · have : ¬ lb[i] < x := by omega
              simp [e1, e2, e4, e5, this]
            · have h5 : 0 ≤ lb[i] := by omega
              have h6 : lb[i] < x := by omega
              simp only [e1, e2, e4, e5, h5, h6, beq_iff_eq, if_false, bne_self_eq_false, Bool.false_eq_true, ne_eq, not_true_eq_false, false_and, or_self, Bool.true_eq_false, decide_false, and_self, decide_true, gt_iff_lt]
              rw [wrap64 (n := (0 : Int) - 1) (by omega) (by omega), wrap64 (by omega) (by omega)]
        · by_cases e3 : sh[i] = 2
          · by_cases e4 : lb[i] < 0
            · simp [e1, e2, e3, e4]; omega
            · by_cases e5 : lb[i] ≥ x
              · have : ¬ lb[i] < x := by omega
                simp [e1, e2, e3, e4, e5, this]
              · have h5 : 0 ≤ lb[i] := by omega
                have h6 : lb[i] < x := by omega
                have h7 : ((2 : Int) != 0) = true := rfl
                simp only [e1, e3, e4, e5, h5, h6, h7, beq_iff_eq, if_false, if_true, bne_self_eq_false, Bool.false_eq_true, ne_eq, not_true_eq_false, and_false, or_self, Bool.true_eq_false, decide_false, and_self, decide_true, gt_iff_lt]
                rw [wrap64 (n := (2 : Int) - 1) (by omega) (by omega), wrap64 (by omega) (by omega)]
          · simp [e1, e2, e3]) (fun op => by simp [tree_ValidTree_l5])]
    have key : (∀ i, i < sh.length → okLab x (lb.getD i 0) = true) ↔ lb.all (okLab x) = true := by rw [← a3]; exact labs_loop (β := Unit) x lb
    unfold okTree shapeOk
    have hd : decide (1 ≤ sh.length ∧ sh.length ≤ 4095 ∧ lb.length = sh.length) = true := by simp; omega
    rw [hd]
    cases shapeRun sh with
    | none => simp
    | some op =>
      simp only
      by_cases hk : lb.all (okLab x) = true
      · rw [if_pos (key.2 hk), hk]; simp
      · have hk' : lb.all (okLab x) = false := by simpa using hk
        rw [if_neg (fun h => hk (key.1 h)), hk']; simp
  · have hf : okTree x sh lb = false := by simp only [okTree, e1, decide_false, Bool.false_and]
    rw [hf]
    by_cases a1 : (sh.length : Int) < 1
    · rw [if_pos (by simpa using a1)]; rfl
    · rw [if_neg (by simpa using a1)]
      by_cases a2 : (sh.length : Int) > 4095
      · rw [if_pos (by simpa using a2)]; rfl
      · rw [if_neg (by simpa using a2)]
        have e4 : (((lb.length : Nat) : Int) != ((sh.length : Nat) : Int)) = true := by simp; omega
        rw [e4]; rfl
end Go.Lite.Fam
end

section
/-
  PURE B: which trees an automaton accepts: the code's answer and the document's are one.
-/
set_option linter.unusedVariables false
set_option linter.unusedSimpArgs false
namespace Go.Lite.Fam
open Go Go.Lite

/-! ### Sets of states -/
/-- A number and a list of marks for the same set. -/
def Same (n : Nat) (s : Int) (m : List Bool) : Prop := (0 ≤ s ∧ s < 18446744073709551616) ∧ m.length = n ∧ ∀ q, q < n → bitAt s q = m.getD q false
theorem same_zero {n : Nat} : Same n 0 (List.replicate n false) := by
  refine ⟨⟨by decide, by decide⟩, by simp, fun q hq => ?_⟩
  rw [getDn (by simpa using hq)]
  simp [bitAt]
theorem same_set {n : Nat} {s : Int} {m : List Bool} {q : Int} (h : Same n s m) (h0 : 0 ≤ q) (hq : q < n) (hn : n ≤ 64) : Same n (bitsInt .or .u64 s (IntKind.u64.wrap (1 * 2 ^ min q.toNat 64))) (m.set q.toNat true) := by
  obtain ⟨hs, hl, hb⟩ := h
  obtain ⟨h1, h2⟩ := orBit (q := q.toNat) hs.1 hs.2 (by omega)
  refine ⟨h1, by simpa using hl, fun p hp => ?_⟩
  rw [h2, hb p hp, getDn (by omega), getDn (by simpa using (by omega : p < m.length)), List.getElem_set]
  by_cases e : q.toNat = p
  · subst e; simp
  · rw [if_neg e]
    have : (p == q.toNat) = false := by simp; omega
    rw [this, Bool.or_false]

def leafStep (x : Int) (s : Int) (l : T_api_Leaf) : Int := if (l.1 == x) = true then bitsInt .or .u64 s (IntKind.u64.wrap (1 * 2 ^ min l.2.1.toNat 64)) else s
def leafMark (x : Int) (m : List Bool) (l : T_api_Leaf) : List Bool := if (l.1 == x) = true then m.set l.2.1.toNat true else m
def leafBits (A : Aut) (x : Int) : Int := A.2.2.2.1.foldl (leafStep x) 0
def leafMarks (A : Aut) (x : Int) : List Bool := A.2.2.2.1.foldl (leafMark x) (List.replicate A.2.1.toNat false)
def branchHit (x : Int) (f s : Nat → Bool) (b : T_api_Branch) : Bool := (b.1 == x) && f b.2.1.toNat && s b.2.2.1.toNat
def branchStep (x f g : Int) (s : Int) (b : T_api_Branch) : Int := if branchHit x (bitAt f) (bitAt g) b = true then bitsInt .or .u64 s (IntKind.u64.wrap (1 * 2 ^ min b.2.2.2.1.toNat 64)) else s
def branchMark (x : Int) (f g : List Bool) (m : List Bool) (b : T_api_Branch) : List Bool := if branchHit x (fun q => f.getD q false) (fun q => g.getD q false) b = true then m.set b.2.2.2.1.toNat true else m
def branchBits (A : Aut) (x f g : Int) : Int := A.2.2.2.2.1.foldl (branchStep x f g) 0
def branchMarks (A : Aut) (x : Int) (f g : List Bool) : List Bool := A.2.2.2.2.1.foldl (branchMark x f g) (List.replicate A.2.1.toNat false)

structure Ok (A : Aut) : Prop where
  top : 1 ≤ A.1 ∧ A.1 ≤ 8 ∧ 0 ≤ A.2.1 ∧ A.2.1 ≤ 64
  acc : ∀ q ∈ A.2.2.1, 0 ≤ q ∧ q < A.2.1
  leaf : ∀ l ∈ A.2.2.2.1, (0 ≤ l.1 ∧ l.1 < A.1) ∧ 0 ≤ l.2.1 ∧ l.2.1 < A.2.1
  branch : ∀ b ∈ A.2.2.2.2.1, (0 ≤ b.1 ∧ b.1 < A.1) ∧ (0 ≤ b.2.1 ∧ b.2.1 < A.2.1) ∧ (0 ≤ b.2.2.1 ∧ b.2.2.1 < A.2.1) ∧ 0 ≤ b.2.2.2.1 ∧ b.2.2.2.1 < A.2.1
theorem ok_of {A : Aut} (h : okAut A = true) : Ok A := by
  simp only [okAut, okTop, Bool.and_eq_true, decide_eq_true_eq, List.all_eq_true, okA, okL, okB, okX] at h
  obtain ⟨⟨⟨h1, h2⟩, h3⟩, h4⟩ := h
  exact ⟨h1, h2, fun l hl => ⟨(h3 l hl).1, (h3 l hl).2⟩, fun b hb => ⟨(h4 b hb).1.1.1, (h4 b hb).1.1.2, (h4 b hb).1.2, (h4 b hb).2⟩⟩

theorem fold_same {α : Type} {n : Nat} {f : Int → α → Int} {g : List Bool → α → List Bool} : ∀ (l : List α) (s : Int) (m : List Bool), Same n s m → (∀ a ∈ l, ∀ s m, Same n s m → Same n (f s a) (g m a)) → Same n (l.foldl f s) (l.foldl g m)
  | [], s, m, h, _ => h
  | a :: l, s, m, h, hs => fold_same l _ _ (hs a (by simp) s m h) (fun b hb => hs b (by simp [hb]))
theorem leaf_same {A : Aut} (h : Ok A) (x : Int) : Same A.2.1.toNat (leafBits A x) (leafMarks A x) := by
  obtain ⟨_, _, t3, t4⟩ := h.top
  refine fold_same _ _ _ same_zero (fun l hl s m hs => ?_)
  obtain ⟨_, h2, h3⟩ := h.leaf l hl
  unfold leafStep leafMark
  split
  · exact same_set hs h2 (by omega) (by omega)
  · exact hs
theorem branch_same {A : Aut} (h : Ok A) (x : Int) {f g : Int} {f' g' : List Bool} (hf : Same A.2.1.toNat f f') (hg : Same A.2.1.toNat g g') : Same A.2.1.toNat (branchBits A x f g) (branchMarks A x f' g') := by
  obtain ⟨_, _, t3, t4⟩ := h.top
  refine fold_same _ _ _ same_zero (fun b hb s m hs => ?_)
  obtain ⟨_, ⟨h1, h2⟩, ⟨h3, h4⟩, h5, h6⟩ := h.branch b hb
  have e : branchHit x (bitAt f) (bitAt g) b = branchHit x (fun q => f'.getD q false) (fun q => g'.getD q false) b := by
    unfold branchHit
    rw [hf.2.2 _ (by omega), hg.2.2 _ (by omega)]
  unfold branchStep branchMark
  rw [e]
  split
  · exact same_set hs h5 (by omega) (by omega)
  · exact hs

theorem inv_fold {α σ : Type} {f : σ → α → σ} {P : σ → Prop} : ∀ (l : List α) (s : σ), P s → (∀ a ∈ l, ∀ s, P s → P (f s a)) → P (l.foldl f s)
  | [], s, h, _ => h
  | a :: l, s, h, hs => inv_fold l _ (hs a (by simp) s h) (fun b hb => hs b (by simp [hb]))

section
variable {A : Aut} (hs : small A) (h : Ok A)
include hs h
theorem leafSet_eq (x : Int) : tree_leafSet A x = some (leafBits A x) := by
  unfold tree_leafSet
  rw [(loop_fold (body := tree_leafSet_l3 A x) A.2.2.2.1 (leafStep x) (fun s i => (s, i)) id (fun _ _ => True) (s0 := (0 : Int)) hs.2.1 trivial (fun i s hi _ => ⟨by
    obtain ⟨_, h2, h3⟩ := h.leaf _ (List.getElem_mem hi)
    simp only [tree_leafSet_l3, ltIf hi, gdIx hi, getDi hi, gd_pos h2, tree_leafSet_j7, leafStep]
    split <;> rfl, trivial⟩) (fun s _ => by simp only [tree_leafSet_l3, ltEnd, id])).1]
  rfl
theorem branchSet_eq (x : Int) {f g : Int} (hf : 0 ≤ f ∧ f < 18446744073709551616) (hg : 0 ≤ g ∧ g < 18446744073709551616) : tree_branchSet A x f g = some (branchBits A x f g) := by
  unfold tree_branchSet
  rw [(loop_fold (body := tree_branchSet_l3 A x f g) A.2.2.2.2.1 (branchStep x f g) (fun s i => (s, i)) id (fun _ _ => True) (s0 := (0 : Int)) hs.2.2 trivial (fun i s hi _ => ⟨by
    obtain ⟨_, ⟨h1, h2⟩, ⟨h3, h4⟩, h5, h6⟩ := h.branch _ (List.getElem_mem hi)
    obtain ⟨_, _, t3, t4⟩ := h.top
    simp only [tree_branchSet_l3, ltIf hi, gdIx hi, getDi hi, gd_pos h1, gd_pos h3, gd_pos h5, tree_branchSet_j7, tree_branchSet_q5, branchStep, branchHit]
    rw [andOne hf.1 hf.2 (by omega), andOne hg.1 hg.2 (by omega)]
    rcases Bool.eq_false_or_eq_true (A.2.2.2.2.1[i].1 == x) with e0 | e0 <;> rcases Bool.eq_false_or_eq_true (bitAt f A.2.2.2.2.1[i].2.1.toNat) with e1 | e1 <;> rcases Bool.eq_false_or_eq_true (bitAt g A.2.2.2.2.1[i].2.2.1.toNat) with e2 | e2 <;> simp [e0, e1, e2], trivial⟩) (fun s _ => by simp only [tree_branchSet_l3, ltEnd, id])).1]
  rfl
theorem leaf_eq (x : Int) : ref07_leaf A x = some (leafMarks A x) := by
  obtain ⟨_, _, t3, t4⟩ := h.top
  unfold ref07_leaf
  rw [gd_pos ⟨t3, by omega, by omega⟩]
  have := loop_fold (body := ref07_leaf_l3 A x) A.2.2.2.1 (leafMark x) (fun s i => (s, i)) id (fun _ s => s.length = A.2.1.toNat) (s0 := List.replicate A.2.1.toNat false) hs.2.1 (by simp) (fun i s hi hl => ⟨by
    obtain ⟨_, h2, h3⟩ := h.leaf _ (List.getElem_mem hi)
    simp only [ref07_leaf_l3, ltIf hi, gdIx hi, getDi hi, gd_pos (And.intro h2 h3), ref07_leaf_j4, leafMark]
    split <;> rfl, by unfold leafMark; split <;> simpa using hl⟩) (fun s _ => by simp only [ref07_leaf_l3, ltEnd, id])
  rw [this.1]
  show some ((leafMarks A x).take A.2.1.toNat) = _
  rw [List.take_of_length_le (by rw [leafMarks]; exact Nat.le_of_eq this.2)]
theorem branch_eq (x : Int) {f g : List Bool} (hf : f.length = A.2.1.toNat) (hg : g.length = A.2.1.toNat) : ref07_branch A x f g = some (branchMarks A x f g) := by
  obtain ⟨_, _, t3, t4⟩ := h.top
  unfold ref07_branch
  rw [gd_pos ⟨t3, by omega, by omega⟩]
  have := loop_fold (body := ref07_branch_l3 A x f g) A.2.2.2.2.1 (branchMark x f g) (fun s i => (s, i)) id (fun _ s => s.length = A.2.1.toNat) (s0 := List.replicate A.2.1.toNat false) hs.2.2 (by simp) (fun i s hi hl => ⟨by
    obtain ⟨_, ⟨h1, h2⟩, ⟨h3, h4⟩, h5, h6⟩ := h.branch _ (List.getElem_mem hi)
    have b1 : 0 ≤ A.2.2.2.2.1[i].2.1 ∧ A.2.2.2.2.1[i].2.1 < (f.length : Nat) := ⟨h1, by omega⟩
    have b2 : 0 ≤ A.2.2.2.2.1[i].2.2.1 ∧ A.2.2.2.2.1[i].2.2.1 < (g.length : Nat) := ⟨h3, by omega⟩
    simp only [ref07_branch_l3, ltIf hi, gdIx hi, getDi hi, gd_pos b1, gd_pos b2, gd_pos (And.intro h5 h6), ref07_branch_j4, ref07_branch_q6, branchMark, branchHit]
    rcases Bool.eq_false_or_eq_true (A.2.2.2.2.1[i].1 == x) with e0 | e0 <;> rcases Bool.eq_false_or_eq_true (f.getD A.2.2.2.2.1[i].2.1.toNat false) with e1 | e1 <;> rcases Bool.eq_false_or_eq_true (g.getD A.2.2.2.2.1[i].2.2.1.toNat false) with e2 | e2 <;> simp only [e0, e1, e2, if_true, Bool.false_eq_true, if_false, Bool.and_true, Bool.and_false, Bool.true_and, Bool.false_and], by unfold branchMark; split <;> simpa using hl⟩) (fun s _ => by simp only [ref07_branch_l3, ltEnd, id])
  rw [this.1]
  show some ((branchMarks A x f g).take A.2.1.toNat) = _
  rw [List.take_of_length_le (by rw [branchMarks]; exact Nat.le_of_eq this.2)]
end
theorem meets_eq {m : List Bool} {l : List Int} (hl : l.length < 4611686018427387904) (hok : ∀ q ∈ l, 0 ≤ q ∧ q < (m.length : Nat)) : ref07_meets m l = some (l.any fun q => m.getD q.toNat false) := by
  unfold ref07_meets
  rw [loop_all (body := ref07_meets_l2 m l) l (fun q => !m.getD q.toNat false) () true hl (fun i h => by
    simp only [ref07_meets_l2, ltIf h, gdIx h, getDi h, gd_pos (hok _ (List.getElem_mem h))]
    rcases Bool.eq_false_or_eq_true (m.getD l[i].toNat false) with e0 | e0 <;> simp only [e0, Bool.not_true, Bool.not_false, if_true, Bool.false_eq_true, if_false]) (by simp only [ref07_meets_l2, ltEnd])]
  have : l.all (fun q => !m.getD q.toNat false) = !(l.any fun q => m.getD q.toNat false) := by rw [List.not_any_eq_all_not]
  rw [this]
  cases l.any (fun q => m.getD q.toNat false) <;> rfl

/-! ### Trees, from the last node to the first -/
/-- What is left of the results of subtrees. -/
def stk {β : Type} (lf : Int → β) (bf : Int → β → β → β) : List (Int × Int) → List β
  | [] => []
  | p :: l => if p.1 = 0 then lf p.2 :: stk lf bf l else match stk lf bf l with
    | a :: b :: r => bf p.2 a b :: r
    | _ => []
theorem stk_len {β : Type} (lf : Int → β) (bf : Int → β → β → β) : ∀ (l : List (Int × Int)) (op : Int), 0 ≤ op → (l.map (·.1)).foldl shapeStep (some op) = some 0 → ((stk lf bf l).length : Int) = op
  | [], op, _, h => by simp at h; simp [stk, h]
  | p :: l, op, h0, h => by
    simp only [List.map_cons, List.foldl_cons, shapeStep] at h
    split at h
    · rw [shape_none] at h; cases h
    · rename_i hc
      have hc1 : op ≠ 0 := fun e => hc (.inl e)
      have hc2 : p.1 = 0 ∨ p.1 = 2 := by
        by_cases e : p.1 = 0
        · exact .inl e
        · by_cases e2 : p.1 = 2
          · exact .inr e2
          · exact absurd (.inr ⟨e, e2⟩) hc
      have ih := stk_len lf bf l (op + (p.1 - 1)) (by omega) h
      simp only [stk]
      rcases hc2 with e | e
      · rw [if_pos e, List.length_cons]; omega
      · rw [if_neg (by omega)]
        match hst : stk lf bf l with
        | [] => rw [hst] at ih; simp at ih; omega
        | [_] => rw [hst] at ih; simp at ih; omega
        | a :: b :: r => rw [hst] at ih; simp at ih ⊢; omega
inductive Two {α β : Type} (R : α → β → Prop) : List α → List β → Prop
  | nil : Two R [] []
  | cons {a b l m} : R a b → Two R l m → Two R (a :: l) (b :: m)
theorem stk_two {α β : Type} {R : α → β → Prop} {lf : Int → α} {bf : Int → α → α → α} {lf' : Int → β} {bf' : Int → β → β → β} (hl : ∀ x, R (lf x) (lf' x)) (hb : ∀ x a b a' b', R a a' → R b b' → R (bf x a b) (bf' x a' b')) : ∀ l, Two R (stk lf bf l) (stk lf' bf' l)
  | [] => .nil
  | p :: l => by
    have ih := stk_two hl hb l
    simp only [stk]
    split
    · exact .cons (hl _) ih
    · revert ih
      generalize stk lf bf l = s
      generalize stk lf' bf' l = t
      intro ih
      match ih with
      | .nil => exact .nil
      | .cons _ .nil => exact .nil
      | .cons h1 (.cons h2 h3) => exact .cons (hb _ _ _ _ _ h1 h2) h3
theorem stk_all {β : Type} {P : β → Prop} {lf : Int → β} {bf : Int → β → β → β} (hl : ∀ x, P (lf x)) (hb : ∀ x a b, P a → P b → P (bf x a b)) (l : List (Int × Int)) : ∀ a ∈ stk lf bf l, P a := by
  induction l with
  | nil => simp [stk]
  | cons p l ih =>
    simp only [stk]
    split
    · intro a ha
      rcases List.mem_cons.1 ha with rfl | ha
      · exact hl _
      · exact ih a ha
    · split
      · rename_i a b r hst
        rw [hst] at ih
        intro c hc
        rcases List.mem_cons.1 hc with rfl | hc
        · exact hb _ _ _ (ih a (by simp)) (ih b (by simp))
        · exact ih c (by simp [hc])
      · simp
theorem rev2 {β : Type} {a b : β} {r : List β} : (a :: b :: r).reverse = r.reverse ++ [b, a] := by simp

/-- The loop from the last node to the first, over any kind of results. -/
theorem stk_loop {β : Type} {body : (List β × Int) → Option ((List β × Int) ⊕ List β)} (lf : Int → β) (bf : Int → β → β → β) (sh lb : List Int) (hlen : lb.length = sh.length) (hl : sh.length ≤ 4095) (hok : shapeRun sh = some 0)
    (hleaf : ∀ (st : List β) (i : Nat) (h : i < sh.length) (h' : i < lb.length), st.length ≤ 4096 → sh[i] = 0 → body (st.reverse, (i : Int)) = some (.inl ((lf lb[i] :: st).reverse, IntKind.i64.wrap ((i : Int) - 1))))
    (hbr : ∀ (a b : β) (r : List β) (i : Nat) (h : i < sh.length) (h' : i < lb.length), r.length ≤ 4096 → sh[i] ≠ 0 → (∀ c ∈ a :: b :: r, c ∈ stk lf bf ((sh.zip lb).drop (i + 1))) → body ((a :: b :: r).reverse, (i : Int)) = some (.inl ((bf lb[i] a b :: r).reverse, IntKind.i64.wrap ((i : Int) - 1))))
    (hend : ∀ st, body (st, (-1 : Int)) = some (.inr st)) : loopP body ([], IntKind.i64.wrap (((sh.length : Nat) : Int) - 1)) = some (stk lf bf (sh.zip lb)).reverse ∧ ∃ s, stk lf bf (sh.zip lb) = [s] := by
  have hz : (sh.zip lb).length = sh.length := by simp [hlen]
  -- how many are left
  have hmap : ∀ i, ((sh.zip lb).drop i).map (·.1) = sh.drop i := by
    intro i
    rw [List.map_drop, List.map_fst_zip (by omega)]
  have hcount : ∀ i, i ≤ sh.length → ∃ op : Int, shapeRun (sh.take i) = some op ∧ ((stk lf bf ((sh.zip lb).drop i)).length : Int) = op := by
    intro i hi
    cases ho : shapeRun (sh.take i) with
    | none => rw [shapeRun_split i, ho, shape_none] at hok; cases hok
    | some op =>
      refine ⟨op, rfl, stk_len lf bf _ op (shapeRun_bound _ _ ho).1 ?_⟩
      rw [hmap, ← ho, ← shapeRun_split]; exact hok
  have hlen2 : ∀ i, i ≤ sh.length → (stk lf bf ((sh.zip lb).drop i)).length ≤ i + 1 := by
    intro i hi
    obtain ⟨op, h1, h2⟩ := hcount i hi
    have := (shapeRun_bound _ _ h1).2
    rw [List.length_take] at this
    omega
  constructor
  · have := loop_steps (body := body) sh.length (fun k => ((stk lf bf ((sh.zip lb).drop (sh.length - k))).reverse, ((sh.length - k : Nat) : Int) - 1)) (e := (stk lf bf (sh.zip lb)).reverse) (fun k hk => ?_) ?_
    · simp only [Nat.sub_zero] at this
      rw [List.drop_eq_nil_of_le (by omega)] at this
      rw [wrapP1 (by omega)]
      exact this
    · -- a node
      try simp only
      obtain ⟨i, hi⟩ : ∃ i, sh.length - k = i + 1 := ⟨sh.length - k - 1, by omega⟩
      have hi2 : sh.length - (k + 1) = i := by omega
      have hil : i < sh.length := by omega
      have hil2 : i < lb.length := by omega
      rw [hi, hi2]
      have hix : (((i + 1 : Nat) : Int) - 1) = (i : Int) := by omega
      rw [hix]
      have hd : (sh.zip lb).drop i = (sh[i], lb[i]) :: (sh.zip lb).drop (i + 1) := by
        rw [List.drop_eq_getElem_cons (by omega)]
        simp
      have hw : IntKind.i64.wrap ((i : Int) - 1) = (i : Int) - 1 := wrapP1 (by omega)
      by_cases hc : sh[i] = 0
      · rw [hleaf _ i hil hil2 (by have := hlen2 (i + 1) (by omega); omega) hc, hd, hw]
        simp only [stk, hc, if_true]
      · obtain ⟨op, h1, h2⟩ := hcount i (by omega)
        have hne : sh[i] = 2 ∧ op ≠ 0 := by
          have h3 : shapeRun (sh.take (i + 1)) = shapeStep (some op) sh[i] := by rw [shapeRun_take hil, h1]
          obtain ⟨op', h4, _⟩ := hcount (i + 1) (by omega)
          rw [h4] at h3
          simp only [shapeStep] at h3
          split at h3
          · cases h3
          · rename_i h5
            refine ⟨?_, fun e => h5 (.inl e)⟩
            by_cases e : sh[i] = 2
            · exact e
            · exact absurd (.inr ⟨hc, e⟩) h5
        rw [hd] at h2
        simp only [stk, if_neg hc] at h2
        rw [hd]
        simp only [stk, if_neg hc]
        have hb := shapeRun_bound _ _ h1
        match hst : stk lf bf ((sh.zip lb).drop (i + 1)) with
        | [] => rw [hst] at h2; simp at h2; omega
        | [_] => rw [hst] at h2; simp at h2; omega
        | a :: b :: r =>
          have hr := hlen2 (i + 1) (by omega)
          rw [hst] at hr
          simp only [List.length_cons] at hr
          rw [hbr a b r i hil hil2 (by omega) hc (fun c hc => by rw [hst]; exact hc), hw]
    · simp only [Nat.sub_self, List.drop_zero]
      exact hend _
  · obtain ⟨op, h1, h2⟩ := hcount 0 (Nat.zero_le _)
    simp [shapeRun] at h1
    rw [List.drop_zero] at h2
    match hst : stk lf bf (sh.zip lb) with
    | [] => rw [hst] at h2; simp at h2; omega
    | [s] => exact ⟨s, rfl⟩
    | _ :: _ :: r => rw [hst] at h2; simp at h2; omega
end Go.Lite.Fam
end

section
/-
  PURE C: the law TreeAccepts.
-/
set_option linter.unusedVariables false
set_option linter.unusedSimpArgs false
namespace Go.Lite.Fam
open Go Go.Lite

theorem okTree_out {x : Int} {sh lb : List Int} (h : okTree x sh lb = true) : (1 ≤ sh.length ∧ sh.length ≤ 4095 ∧ lb.length = sh.length) ∧ shapeRun sh = some 0 := by
  simp only [okTree, Bool.and_eq_true, decide_eq_true_eq] at h
  refine ⟨h.1.1, ?_⟩
  have h2 := h.1.2
  unfold shapeOk at h2
  split at h2
  · rename_i op ho
    simp only [beq_iff_eq] at h2
    rw [ho, h2]
  · cases h2
def stkBits (A : Aut) (sh lb : List Int) : List Int := stk (leafBits A) (branchBits A) (sh.zip lb)
def stkMarks (A : Aut) (sh lb : List Int) : List (List Bool) := stk (leafMarks A) (branchMarks A) (sh.zip lb)
theorem stk_rel {A : Aut} (h : Ok A) (l : List (Int × Int)) : Two (Same A.2.1.toNat) (stk (leafBits A) (branchBits A) l) (stk (leafMarks A) (branchMarks A) l) :=
  stk_two (fun x => leaf_same h x) (fun x a b a' b' h1 h2 => branch_same h x h1 h2) l
theorem two_mem {α β : Type} {R : α → β → Prop} {l : List α} {m : List β} (h : Two R l m) : (∀ a ∈ l, ∃ b, R a b) ∧ ∀ b ∈ m, ∃ a, R a b := by
  induction h with
  | nil => simp
  | cons h1 _ ih =>
    constructor
    · intro a ha
      rcases List.mem_cons.1 ha with rfl | ha
      · exact ⟨_, h1⟩
      · exact ih.1 a ha
    · intro b hb
      rcases List.mem_cons.1 hb with rfl | hb
      · exact ⟨_, h1⟩
      · exact ih.2 b hb

theorem tops {β : Type} {a b : β} {r : List β} (hr : r.length ≤ 4096) (z : β) :
    ((a :: b :: r).reverse.length = r.length + 2) ∧ (0 ≤ IntKind.i64.wrap ((((a :: b :: r).reverse.length : Nat) : Int) - 1) ∧ IntKind.i64.wrap ((((a :: b :: r).reverse.length : Nat) : Int) - 1) < (((a :: b :: r).reverse.length : Nat) : Int)) ∧ (0 ≤ IntKind.i64.wrap ((((a :: b :: r).reverse.length : Nat) : Int) - 2) ∧ IntKind.i64.wrap ((((a :: b :: r).reverse.length : Nat) : Int) - 2) < (((a :: b :: r).reverse.length : Nat) : Int)) ∧ (0 ≤ IntKind.i64.wrap ((((a :: b :: r).reverse.length : Nat) : Int) - 2) ∧ IntKind.i64.wrap ((((a :: b :: r).reverse.length : Nat) : Int) - 2) ≤ (((a :: b :: r).reverse.length : Nat) : Int)) ∧
      (a :: b :: r).reverse.getD (IntKind.i64.wrap ((((a :: b :: r).reverse.length : Nat) : Int) - 1)).toNat z = a ∧ (a :: b :: r).reverse.getD (IntKind.i64.wrap ((((a :: b :: r).reverse.length : Nat) : Int) - 2)).toNat z = b ∧ (a :: b :: r).reverse.take (IntKind.i64.wrap ((((a :: b :: r).reverse.length : Nat) : Int) - 2)).toNat = r.reverse := by
  have hl : (a :: b :: r).reverse.length = r.length + 2 := by simp
  have w1 : IntKind.i64.wrap ((((a :: b :: r).reverse.length : Nat) : Int) - 1) = ((r.length + 1 : Nat) : Int) := by rw [hl, wrap64 (by omega) (by omega)]; omega
  have w2 : IntKind.i64.wrap ((((a :: b :: r).reverse.length : Nat) : Int) - 2) = ((r.length : Nat) : Int) := by rw [hl, wrap64 (by omega) (by omega)]; omega
  rw [w1, w2, Int.toNat_natCast, Int.toNat_natCast]
  refine ⟨hl, ⟨by omega, by rw [hl]; omega⟩, ⟨by omega, by rw [hl]; omega⟩, ⟨by omega, by rw [hl]; omega⟩, ?_, ?_, ?_⟩
  · rw [rev2, List.getD_eq_getElem?_getD, List.getElem?_append_right (by simp)]; simp
  · rw [rev2, List.getD_eq_getElem?_getD, List.getElem?_append_right (by simp)]; simp
  · rw [rev2, List.take_left' (by simp)]

section
variable {A : Aut} {sh lb : List Int} (hs : small A) (h : Ok A) (ht : okTree A.1 sh lb = true)
include hs h ht

theorem accepts_code : ∃ s, stkBits A sh lb = [s] ∧ tree_Accepts A sh lb = some (A.2.2.1.any (fun q => bitAt s q.toNat), 0) := by
  obtain ⟨⟨l1, l2, l3⟩, hrun⟩ := okTree_out ht
  have bnd : ∀ l, ∀ a ∈ stk (leafBits A) (branchBits A) l, 0 ≤ a ∧ a < 18446744073709551616 := fun l a ha => by
    obtain ⟨b, hb⟩ := (two_mem (stk_rel h l)).1 a ha
    exact hb.1
  have loop := stk_loop (body := tree_Accepts_l8 A sh lb) (leafBits A) (branchBits A) sh lb l3 l2 hrun (fun st i hi hi' hst hc => by
      have hst2 : st.reverse.length ≤ 4096 := by simpa using hst
      have e1 : (decide ((i : Int) ≥ 0)) = true := by simp
      simp only [tree_Accepts_l8, e1, if_true, gdIx hi, gdIx hi', getDi hi, getDi hi', getDn hi, getDn hi', hc, beq_self_eq_true, leafSet_eq hs h, Option.bind_some, tree_Accepts_j16, Int.toNat_natCast, List.take_length]
      rw [gd_pos (by simp only [List.length_cons, List.length_nil]; omega), List.reverse_cons])
    (fun a b r i hi hi' hr hc hm => by
      obtain ⟨t1, t2, t3, t4, t5, t6, t7⟩ := tops (a := a) (b := b) hr (0 : Int)
      have e1 : (decide ((i : Int) ≥ 0)) = true := by simp
      have e2 : (sh[i] == 0) = false := by simpa using hc
      simp only [tree_Accepts_l8, e1, if_true, gdIx hi, gdIx hi', getDi hi, getDi hi', e2, Bool.false_eq_true, if_false, gd_pos t2, gd_pos t3, gd_pos t4, t5, t6, t7, branchSet_eq hs h _ (bnd _ a (hm a (by simp))) (bnd _ b (hm b (by simp))), Option.bind_some, tree_Accepts_j16]
      rw [gd_pos (by simp only [List.length_reverse, List.length_cons, List.length_nil]; omega), List.reverse_cons])
    (fun st => by simp [tree_Accepts_l8])
  obtain ⟨hl, s, hst⟩ := loop
  refine ⟨s, hst, ?_⟩
  have hsb := bnd _ s (by rw [hst]; simp)
  unfold tree_Accepts
  have herr : errA A = 0 := by
    have : okAut A = true := by
      simp only [okAut, okTop, Bool.and_eq_true, decide_eq_true_eq, List.all_eq_true, okA, okL, okB, okX]
      exact ⟨⟨⟨h.top, h.acc⟩, fun l hl => ⟨(h.leaf l hl).1, (h.leaf l hl).2⟩⟩, fun b hb => ⟨⟨⟨(h.branch b hb).1, (h.branch b hb).2.1⟩, (h.branch b hb).2.2.1⟩, (h.branch b hb).2.2.2⟩⟩
    simp [errA, this]
  rw [tree_Validate_eq hs, herr, validTree_eq (by omega) (by omega), ht]
  simp only [Option.bind_some, bne_self_eq_false, Bool.false_eq_true, if_false, Bool.not_true]
  rw [hl, hst]
  simp only [Option.bind_some, List.reverse_cons, List.reverse_nil, List.nil_append]
  rw [loop_all (body := tree_Accepts_l18 A [s]) A.2.2.1 (fun q => !bitAt s q.toNat) () (true, (0 : Int)) hs.1 (fun i hi => by
    obtain ⟨q1, q2⟩ := h.acc _ (List.getElem_mem hi)
    obtain ⟨_, _, t3, t4⟩ := h.top
    simp only [tree_Accepts_l18, ltIf hi, gdIx hi, getDi hi]
    rw [gd_pos ⟨by omega, by simp⟩, gd_pos q1, show [s].getD (0 : Int).toNat 0 = s from rfl, andOne hsb.1 hsb.2 (by omega)]
    rcases Bool.eq_false_or_eq_true (bitAt s A.2.2.1[i].toNat) with e0 | e0 <;> simp [e0]) (by simp only [tree_Accepts_l18, ltEnd])]
  have : A.2.2.1.all (fun q => !bitAt s q.toNat) = !(A.2.2.1.any fun q => bitAt s q.toNat) := by rw [List.not_any_eq_all_not]
  rw [this]
  cases A.2.2.1.any (fun q => bitAt s q.toNat) <;> rfl

theorem accepts_doc : ∃ m, stkMarks A sh lb = [m] ∧ ref07_Accepts A sh lb = some (A.2.2.1.any (fun q => m.getD q.toNat false), 0) := by
  obtain ⟨⟨l1, l2, l3⟩, hrun⟩ := okTree_out ht
  have bnd : ∀ l, ∀ a ∈ stk (leafMarks A) (branchMarks A) l, a.length = A.2.1.toNat := fun l a ha => by
    obtain ⟨b, hb⟩ := (two_mem (stk_rel h l)).2 a ha
    exact hb.2.1
  have loop := stk_loop (body := ref07_accepts_l3 A sh lb) (leafMarks A) (branchMarks A) sh lb l3 l2 hrun (fun st i hi hi' hst hc => by
      have hst2 : st.reverse.length ≤ 4096 := by simpa using hst
      have e1 : (decide ((i : Int) ≥ 0)) = true := by simp
      simp only [ref07_accepts_l3, e1, if_true, gdIx hi, gdIx hi', getDi hi, getDi hi', getDn hi, getDn hi', hc, beq_self_eq_true, leaf_eq hs h, Option.bind_some, ref07_accepts_j4]
      rw [gd_pos (by simp only [List.length_cons, List.length_nil]; omega), List.reverse_cons])
    (fun a b r i hi hi' hr hc hm => by
      obtain ⟨t1, t2, t3, t4, t5, t6, t7⟩ := tops (a := a) (b := b) hr ([] : List Bool)
      have e1 : (decide ((i : Int) ≥ 0)) = true := by simp
      have e2 : (sh[i] == 0) = false := by simpa using hc
      simp only [ref07_accepts_l3, e1, if_true, gdIx hi, gdIx hi', getDi hi, getDi hi', e2, Bool.false_eq_true, if_false, gd_pos t2, gd_pos t3, gd_pos t4, t5, t6, t7, branch_eq hs h _ (bnd _ a (hm a (by simp))) (bnd _ b (hm b (by simp))), Option.bind_some, ref07_accepts_j4]
      rw [gd_pos (by simp only [List.length_reverse, List.length_cons, List.length_nil]; omega), List.reverse_cons])
    (fun st => by simp [ref07_accepts_l3])
  obtain ⟨hl, m, hst⟩ := loop
  refine ⟨m, hst, ?_⟩
  have hmb := bnd _ m (by rw [hst]; simp)
  obtain ⟨_, _, t3, t4⟩ := h.top
  unfold ref07_Accepts
  have herr : errA A = 0 := by
    have : okAut A = true := by
      simp only [okAut, okTop, Bool.and_eq_true, decide_eq_true_eq, List.all_eq_true, okA, okL, okB, okX]
      exact ⟨⟨⟨h.top, h.acc⟩, fun l hl => ⟨(h.leaf l hl).1, (h.leaf l hl).2⟩⟩, fun b hb => ⟨⟨⟨(h.branch b hb).1, (h.branch b hb).2.1⟩, (h.branch b hb).2.2.1⟩, (h.branch b hb).2.2.2⟩⟩
    simp [errA, this]
  rw [ref07_Validate_eq hs, herr, refTree_eq (by omega) (by omega), ht]
  simp only [Option.bind_some, bne_self_eq_false, Bool.false_eq_true, if_false, Bool.not_true, ref07_Accepts_q1]
  unfold ref07_accepts
  rw [hl, hst]
  simp only [Option.bind_some, List.reverse_cons, List.reverse_nil, List.nil_append]
  rw [gd_pos ⟨by omega, by simp⟩, show [m].getD (0 : Int).toNat [] = m from rfl, meets_eq hs.1 (fun q hq => by have := h.acc q hq; omega)]
  rfl

theorem accepts_same : ∃ b, tree_Accepts A sh lb = some (b, 0) ∧ ref07_Accepts A sh lb = some (b, 0) := by
  obtain ⟨s, h1, h2⟩ := accepts_code hs h ht
  obtain ⟨m, h3, h4⟩ := accepts_doc hs h ht
  have hr := stk_rel h (sh.zip lb)
  unfold stkBits at h1
  unfold stkMarks at h3
  rw [h1, h3] at hr
  cases hr with
  | cons hr _ =>
    refine ⟨_, h2, ?_⟩
    rw [h4]
    congr 2
    rw [Bool.eq_iff_iff, List.any_eq_true, List.any_eq_true]
    have key : ∀ q ∈ A.2.2.1, bitAt s q.toNat = m.getD q.toNat false := fun q hq => hr.2.2 _ (by have := h.acc q hq; omega)
    constructor
    · rintro ⟨q, hq, hb⟩; exact ⟨q, hq, by rw [key q hq]; exact hb⟩
    · rintro ⟨q, hq, hb⟩; exact ⟨q, hq, by rw [← key q hq]; exact hb⟩
end

theorem accepts_all {A : Aut} {sh lb : List Int} (hs : small A) (h1 : sh.length < 4611686018427387904) (h2 : lb.length < 4611686018427387904) : ∃ r, tree_Accepts A sh lb = some r ∧ ref07_Accepts A sh lb = some r := by
  cases ha : okAut A with
  | false =>
    have he : errA A = 1 := by simp [errA, ha]
    refine ⟨(false, 1), ?_, ?_⟩
    · unfold tree_Accepts
      rw [tree_Validate_eq hs, he]; rfl
    · unfold ref07_Accepts
      rw [ref07_Validate_eq hs, he]; rfl
  | true =>
    have he : errA A = 0 := by simp [errA, ha]
    cases ht : okTree A.1 sh lb with
    | false =>
      refine ⟨(false, 1), ?_, ?_⟩
      · unfold tree_Accepts
        rw [tree_Validate_eq hs, he, validTree_eq h1 h2, ht]; rfl
      · unfold ref07_Accepts
        rw [ref07_Validate_eq hs, he, refTree_eq h1 h2, ht]; rfl
    | true =>
      obtain ⟨b, e1, e2⟩ := accepts_same hs (ok_of ha) ht
      exact ⟨_, e1, e2⟩

theorem Big_eq {A : Aut} : law07_Big A = some (decide (300 < A.2.2.1.length) || decide (300 < A.2.2.2.1.length) || decide (800 < A.2.2.2.2.1.length)) := by
  unfold law07_Big law07_Big_q1
  by_cases h1 : 300 < A.2.2.1.length
  · rw [if_pos (by simp; omega)]; simp [h1]
  · rw [if_neg (by simp; omega)]
    by_cases h2 : 300 < A.2.2.2.1.length
    · rw [if_pos (by simp; omega)]; simp [h2]
    · rw [if_neg (by simp; omega)]
      congr 1
      rw [Bool.eq_iff_iff]; simp; omega
theorem long_eq {T : T_familychecklaw07_Tree} : law07_long T = some (decide (60 < T.1.length) || decide (60 < T.2.1.length)) := by
  unfold law07_long law07_long_q1
  by_cases h1 : 60 < T.1.length
  · rw [if_pos (by simp; omega)]; simp [h1]
  · rw [if_neg (by simp; omega)]
    congr 1
    rw [Bool.eq_iff_iff]; simp; omega

theorem TreeAccepts_law (A : Aut) (T : T_familychecklaw07_Tree) : law07_TreeAccepts A T = some true := by
  unfold law07_TreeAccepts
  rw [Big_eq, long_eq]
  simp only [Option.bind_some]
  split
  · rfl
  · rename_i hb
    cases hl : (decide (60 < T.1.length) || decide (60 < T.2.1.length)) with
    | true => rfl
    | false =>
      simp only [Bool.or_eq_true, decide_eq_true_eq, not_or, Bool.or_eq_false_iff, decide_eq_false_iff_not] at hb hl
      obtain ⟨r, e1, e2⟩ := accepts_all (A := A) (sh := T.1) (lb := T.2.1) ⟨by omega, by omega, by omega⟩ (by omega) (by omega)
      unfold law07_TreeAccepts_q1
      simp only [Bool.false_eq_true, if_false, e1, e2, Option.bind_some, beq_self_eq_true, if_true]
      rfl
end Go.Lite.Fam
end

section
/-
  PURE D: smallest trees.
-/
set_option linter.unusedVariables false
set_option linter.unusedSimpArgs false
namespace Go.Lite.Fam
open Go Go.Lite

/-- A tree that can have a state. -/
inductive Gen (A : Aut) : Int → List Int → List Int → Prop
  | leaf {l : T_api_Leaf} : l ∈ A.2.2.2.1 → Gen A l.2.1 [0] [l.1]
  | branch {b : T_api_Branch} {s1 l1 s2 l2 : List Int} : b ∈ A.2.2.2.2.1 → Gen A b.2.1 s1 l1 → Gen A b.2.2.1 s2 l2 → Gen A b.2.2.2.1 (2 :: (s1 ++ s2)) (b.1 :: (l1 ++ l2))

/-! ### Sizes -/
def at0 (s : List Int) (q : Int) : Int := s.getD q.toNat 0
def capC (C v : Int) : Int := if C < v then C else v
def hit (C : Int) (s : List Int) (b : T_api_Branch) : Prop := (at0 s b.2.1 ≠ 0 ∧ at0 s b.2.2.1 ≠ 0) ∧ (at0 s b.2.2.2.1 = 0 ∨ capC C (1 + at0 s b.2.1 + at0 s b.2.2.1) < at0 s b.2.2.2.1)
instance (C : Int) (s : List Int) (b : T_api_Branch) : Decidable (hit C s b) := by unfold hit; infer_instance
def newV (C : Int) (s : List Int) (b : T_api_Branch) : Int := capC C (1 + at0 s b.2.1 + at0 s b.2.2.1)

/-- What is known of sizes on the way. -/
structure Sz (A : Aut) (C : Int) (s : List Int) : Prop where
  len : s.length = A.2.1.toNat
  val : ∀ q, 0 ≤ at0 s q ∧ at0 s q ≤ C
  sound : ∀ q, 0 ≤ q → q < A.2.1 → at0 s q ≠ 0 → ∃ sh lb, Gen A q sh lb ∧ at0 s q = capC C (sh.length : Nat)
  leaf : ∀ l ∈ A.2.2.2.1, at0 s l.2.1 = 1
structure Closed (A : Aut) (C : Int) (s : List Int) : Prop extends Sz A C s where
  branch : ∀ b ∈ A.2.2.2.2.1, ¬ hit C s b

theorem at0_set {s : List Int} {p q v : Int} (hp : 0 ≤ p) (hq : 0 ≤ q) (hl : p < (s.length : Nat)) : at0 (s.set p.toNat v) q = if q = p then v else at0 s q := by
  unfold at0
  by_cases h : q = p
  · subst h
    rw [if_pos rfl, getDn (by simp; omega), List.getElem_set_self]
  · rw [if_neg h]
    simp only [List.getD_eq_getElem?_getD]
    rw [List.getElem?_set_ne (by omega)]
theorem at0_out {s : List Int} {q : Int} (h : s.length ≤ q.toNat) : at0 s q = 0 := by
  unfold at0
  rw [List.getD_eq_getElem?_getD, List.getElem?_eq_none h]; rfl
theorem at0_set' {s : List Int} {p q v : Int} (hp : 0 ≤ p) (hl : p < (s.length : Nat)) : at0 (s.set p.toNat v) q = if q.toNat = p.toNat then v else at0 s q := by
  unfold at0
  by_cases h : q.toNat = p.toNat
  · rw [if_pos h, h, getDn (by simp; omega), List.getElem_set_self]
  · rw [if_neg h]
    simp only [List.getD_eq_getElem?_getD]
    rw [List.getElem?_set_ne (by omega)]
theorem capC_le {C v : Int} : capC C v ≤ C := by unfold capC; split <;> omega
theorem capC_le' {C v : Int} : capC C v ≤ v := by unfold capC; split <;> omega
theorem capC_mono {C v w : Int} (h : v ≤ w) : capC C v ≤ capC C w := by unfold capC; split <;> split <;> omega
theorem capC_add {C a b : Int} (hC : 1 ≤ C) (ha : 0 ≤ a) (hb : 0 ≤ b) : capC C (1 + capC C a + capC C b) = capC C (1 + a + b) := by
  unfold capC
  repeat' split
  all_goals omega

section
variable {A : Aut} (h : Ok A) {C : Int} (hC : 3 ≤ C)
include h hC

/-- One branch is looked at. -/
theorem sz_step {s : List Int} (hs : Sz A C s) {b : T_api_Branch} (hb : b ∈ A.2.2.2.2.1) (hh : hit C s b) : Sz A C (s.set b.2.2.2.1.toNat (newV C s b)) := by
  obtain ⟨_, ⟨f1, f2⟩, ⟨g1, g2⟩, t1, t2⟩ := h.branch b hb
  have hlen := hs.len
  have hset : ∀ q, 0 ≤ q → at0 (s.set b.2.2.2.1.toNat (newV C s b)) q = if q = b.2.2.2.1 then newV C s b else at0 s q := fun q hq => at0_set t1 hq (by omega)
  have hf := hs.val b.2.1
  have hg := hs.val b.2.2.1
  have hn : 0 ≤ newV C s b ∧ newV C s b ≤ C := ⟨by unfold newV capC; split <;> omega, capC_le⟩
  refine ⟨by simp [hlen], fun q => ?_, fun q h0 h1 hne => ?_, fun l hl => ?_⟩
  · rw [at0_set' t1 (by omega)]
    split
    · exact hn
    · exact hs.val q
  · rw [hset q h0] at hne ⊢
    by_cases he : q = b.2.2.2.1
    · rw [if_pos he]
      subst he
      obtain ⟨s1, l1, e1, e2⟩ := hs.sound _ f1 f2 hh.1.1
      obtain ⟨s2, l2, e3, e4⟩ := hs.sound _ g1 g2 hh.1.2
      refine ⟨_, _, .branch hb e1 e3, ?_⟩
      unfold newV
      rw [e2, e4, capC_add (by omega) (by omega) (by omega)]
      congr 1
      simp only [List.length_cons, List.length_append]
      omega
    · rw [if_neg he] at hne ⊢
      exact hs.sound q h0 h1 hne
  · obtain ⟨_, l1, l2⟩ := h.leaf l hl
    rw [hset _ l1]
    by_cases he : l.2.1 = b.2.2.2.1
    · exfalso
      have h1 := hs.leaf l hl
      rw [he] at h1
      rcases hh.2 with h2 | h2
      · omega
      · rw [h1] at h2
        have h3 : 1 ≤ at0 s b.2.1 := by have := hh.1.1; omega
        have h4 : 1 ≤ at0 s b.2.2.1 := by have := hh.1.2; omega
        unfold capC at h2
        split at h2 <;> omega
    · rw [if_neg he]; exact hs.leaf l hl
/-- The sizes are those of smallest trees. -/
theorem sz_least {s : List Int} (hs : Closed A C s) {q : Int} {sh lb : List Int} (hg : Gen A q sh lb) : (0 ≤ q ∧ q < A.2.1) ∧ at0 s q ≠ 0 ∧ at0 s q ≤ capC C (sh.length : Nat) := by
  induction hg with
  | leaf hl =>
    obtain ⟨_, l1, l2⟩ := h.leaf _ hl
    rw [hs.leaf _ hl]
    refine ⟨⟨l1, l2⟩, by decide, ?_⟩
    unfold capC
    simp only [List.length_cons, List.length_nil]
    split <;> omega
  | @branch b s1 l1 s2 l2 hb _ _ ih1 ih2 =>
    obtain ⟨_, ⟨f1, f2⟩, ⟨g1, g2⟩, t1, t2⟩ := h.branch b hb
    have hn := hs.branch b hb
    have hf := hs.val b.2.1
    have hg := hs.val b.2.2.1
    have ht : at0 s b.2.2.2.1 ≠ 0 ∧ ¬ capC C (1 + at0 s b.2.1 + at0 s b.2.2.1) < at0 s b.2.2.2.1 := by
      refine ⟨fun e => hn ⟨⟨ih1.2.1, ih2.2.1⟩, .inl e⟩, fun e => hn ⟨⟨ih1.2.1, ih2.2.1⟩, .inr e⟩⟩
    refine ⟨⟨t1, t2⟩, ht.1, ?_⟩
    have e1 : capC C (1 + at0 s b.2.1 + at0 s b.2.2.1) ≤ capC C (1 + capC C (s1.length : Nat) + capC C (s2.length : Nat)) := capC_mono (by have := ih1.2.2; have := ih2.2.2; omega)
    rw [capC_add (by omega) (by omega) (by omega)] at e1
    have e2 : (((2 :: (s1 ++ s2)).length : Nat) : Int) = 1 + (s1.length : Nat) + (s2.length : Nat) := by
      simp only [List.length_cons, List.length_append]; omega
    rw [e2]
    omega
end

/-- How far the sizes can still fall. -/
def pot (C : Int) (s : List Int) : Nat := (s.map fun v => if v = 0 then (C + 1).toNat else v.toNat).sum
theorem sum_set : ∀ (l : List Nat) (i : Nat) (v : Nat), i < l.length → (l.set i v).sum + l.getD i 0 = l.sum + v
  | [], i, v, h => by simp at h
  | a :: l, 0, v, h => by simp; omega
  | a :: l, i + 1, v, h => by
    have := sum_set l i v (by simpa using h)
    simp at this ⊢
    omega
theorem pot_set {C : Int} {s : List Int} {p v : Int} (hp : 0 ≤ p) (hl : p < (s.length : Nat)) (hv : 1 ≤ v ∧ v ≤ C) (hs : 0 ≤ at0 s p ∧ at0 s p ≤ C) (h : at0 s p = 0 ∨ v < at0 s p) : pot C (s.set p.toNat v) < pot C s := by
  unfold pot
  rw [List.map_set]
  have hpl : p.toNat < s.length := by omega
  have h1 := sum_set (s.map fun v => if v = 0 then (C + 1).toNat else v.toNat) p.toNat (if v = 0 then (C + 1).toNat else v.toNat) (by simpa using hpl)
  have h2 : (s.map fun v => if v = 0 then (C + 1).toNat else v.toNat).getD p.toNat 0 = if at0 s p = 0 then (C + 1).toNat else (at0 s p).toNat := by
    rw [getDn (by simpa using hpl), List.getElem_map]
    unfold at0
    rw [getDn hpl]
  rw [h2] at h1
  rw [if_neg (show ¬ v = 0 by omega)] at h1 ⊢
  by_cases h0 : at0 s p = 0
  · rw [if_pos h0] at h1; omega
  · rw [if_neg h0] at h1
    rcases h with h | h
    · exact absurd h h0
    · omega

/-- What the code keeps beside the sizes: for each, how it came. -/
structure Wit (A : Aut) (C : Int) (s lf : List Int) (fr : List T_api_Branch) : Prop where
  len1 : lf.length = A.2.1.toNat
  len2 : fr.length = A.2.1.toNat
  how : ∀ q, 0 ≤ q → q < A.2.1 → at0 s q ≠ 0 → (0 ≤ at0 lf q ∧ at0 s q = 1 ∧ ∃ l ∈ A.2.2.2.1, l.2.1 = q ∧ l.1 = at0 lf q) ∨
    (at0 lf q < 0 ∧ ∃ b ∈ A.2.2.2.2.1, fr.getD q.toNat Z_api_Branch = b ∧ b.2.2.2.1 = q ∧ at0 s b.2.1 ≠ 0 ∧ at0 s b.2.2.1 ≠ 0 ∧ capC C (1 + at0 s b.2.1 + at0 s b.2.2.1) ≤ at0 s q)
theorem wit_step {A : Aut} (h : Ok A) {C : Int} (hC : 3 ≤ C) {s lf : List Int} {fr : List T_api_Branch} (hs : Sz A C s) (hw : Wit A C s lf fr) {b : T_api_Branch} (hb : b ∈ A.2.2.2.2.1) (hh : hit C s b) :
    Wit A C (s.set b.2.2.2.1.toNat (newV C s b)) (lf.set b.2.2.2.1.toNat (-1)) (fr.set b.2.2.2.1.toNat b) := by
  obtain ⟨_, ⟨f1, f2⟩, ⟨g1, g2⟩, t1, t2⟩ := h.branch b hb
  have hlen := hs.len
  have hset : ∀ q, 0 ≤ q → at0 (s.set b.2.2.2.1.toNat (newV C s b)) q = if q = b.2.2.2.1 then newV C s b else at0 s q := fun q hq => at0_set t1 hq (by omega)
  have hsl : ∀ q, 0 ≤ q → at0 (lf.set b.2.2.2.1.toNat (-1)) q = if q = b.2.2.2.1 then -1 else at0 lf q := fun q hq => at0_set t1 hq (by have := hw.len1; omega)
  have hf := hs.val b.2.1
  have hg := hs.val b.2.2.1
  have hpos : 1 ≤ at0 s b.2.1 ∧ 1 ≤ at0 s b.2.2.1 := by have := hh.1; omega
  have hn : 1 ≤ newV C s b := by unfold newV capC; split <;> omega
  have ne1 : b.2.1 ≠ b.2.2.2.1 := by
    intro e
    rcases hh.2 with h2 | h2
    · rw [← e] at h2; exact hh.1.1 h2
    · rw [← e] at h2; unfold capC at h2; split at h2 <;> omega
  have ne2 : b.2.2.1 ≠ b.2.2.2.1 := by
    intro e
    rcases hh.2 with h2 | h2
    · rw [← e] at h2; exact hh.1.2 h2
    · rw [← e] at h2; unfold capC at h2; split at h2 <;> omega
  -- the sizes only fall
  have hle : ∀ q, 0 ≤ q → at0 s q ≠ 0 → at0 (s.set b.2.2.2.1.toNat (newV C s b)) q ≠ 0 ∧ at0 (s.set b.2.2.2.1.toNat (newV C s b)) q ≤ at0 s q := by
    intro q hq hne
    rw [hset q hq]
    split
    · rename_i he
      subst he
      rcases hh.2 with h2 | h2
      · exact absurd h2 hne
      · exact ⟨by omega, by unfold newV; omega⟩
    · exact ⟨hne, Int.le_refl _⟩
  refine ⟨by simpa using hw.len1, by simpa using hw.len2, fun q h0 h1 hne => ?_⟩
  rw [hsl q h0]
  by_cases he : q = b.2.2.2.1
  · right
    rw [if_pos he]
    refine ⟨by decide, b, hb, ?_, he.symm, ?_, ?_, ?_⟩
    · rw [he, getDn (by simpa using (by have := hw.len2; omega : b.2.2.2.1.toNat < fr.length)), List.getElem_set_self]
    · rw [hset _ f1, if_neg ne1]; exact hh.1.1
    · rw [hset _ g1, if_neg ne2]; exact hh.1.2
    · rw [hset _ f1, if_neg ne1, hset _ g1, if_neg ne2, hset q h0, if_pos he]; exact Int.le_refl _
  · rw [if_neg he]
    rw [hset q h0, if_neg he] at hne
    rcases hw.how q h0 h1 hne with ⟨a1, a2, a3⟩ | ⟨a1, b', hb', a2, a3, a4, a5, a6⟩
    · left
      rw [hset q h0, if_neg he]
      exact ⟨a1, a2, a3⟩
    · right
      obtain ⟨_, ⟨f1', _⟩, ⟨g1', _⟩, _⟩ := h.branch b' hb'
      obtain ⟨c1, c2⟩ := hle _ f1' a4
      obtain ⟨c3, c4⟩ := hle _ g1' a5
      refine ⟨a1, b', hb', ?_, a3, c1, c3, ?_⟩
      · rw [← a2]
        simp only [List.getD_eq_getElem?_getD]
        rw [List.getElem?_set_ne (by omega)]
      · rw [hset q h0, if_neg he]
        exact Int.le_trans (capC_mono (by omega)) a6

theorem hit_if {α : Type} (C : Int) (s : List Int) (b : T_api_Branch) (x y : α) : (if (at0 s b.2.1 == 0) = true then y else if (at0 s b.2.2.1 == 0) = true then y else if (at0 s b.2.2.2.1 == 0) = true then x else if (decide (newV C s b < at0 s b.2.2.2.1)) = true then x else y) = if hit C s b then x else y := by
  unfold hit newV
  by_cases a : at0 s b.2.1 = 0
  · simp [a]
  · by_cases c : at0 s b.2.2.1 = 0
    · simp [a, c]
    · by_cases d : at0 s b.2.2.2.1 = 0
      · simp [a, c, d]
      · simp [a, c, d]

/-! ### The loops -/
/-- Behind the leaves. -/
structure Start (A : Aut) (i : Nat) (s : List Int) : Prop where
  len : s.length = A.2.1.toNat
  one : ∀ q, at0 s q = 0 ∨ at0 s q = 1
  why : ∀ q, 0 ≤ q → q < A.2.1 → at0 s q ≠ 0 → ∃ l ∈ A.2.2.2.1, l.2.1 = q
  leaf : ∀ j (hj : j < A.2.2.2.1.length), j < i → at0 s A.2.2.2.1[j].2.1 = 1
theorem start0 {A : Aut} : Start A 0 (List.replicate A.2.1.toNat 0) := by
  have h0 : ∀ q, at0 (List.replicate A.2.1.toNat (0 : Int)) q = 0 := by
    intro q
    unfold at0
    rw [List.getD_eq_getElem?_getD, List.getElem?_replicate]
    split <;> rfl
  exact ⟨by simp, fun q => .inl (h0 q), fun q _ _ hne => absurd (h0 q) hne, fun j _ hj => absurd hj (by omega)⟩
theorem start_step {A : Aut} (h : Ok A) {i : Nat} {s : List Int} (hi : i < A.2.2.2.1.length) (hs : Start A i s) : Start A (i + 1) (s.set A.2.2.2.1[i].2.1.toNat 1) := by
  obtain ⟨_, l1, l2⟩ := h.leaf _ (List.getElem_mem hi)
  have hlen := hs.len
  refine ⟨by simp [hlen], fun q => ?_, fun q h0 h1 hne => ?_, fun j hj hlt => ?_⟩
  · rw [at0_set' l1 (by omega)]
    split
    · exact .inr rfl
    · exact hs.one q
  · rw [at0_set l1 h0 (by omega)] at hne
    split at hne
    · rename_i he; exact ⟨_, List.getElem_mem hi, he.symm⟩
    · exact hs.why q h0 h1 hne
  · obtain ⟨_, k1, k2⟩ := h.leaf _ (List.getElem_mem hj)
    rw [at0_set l1 k1 (by omega)]
    split
    · rfl
    · rename_i hne
      refine hs.leaf j hj ?_
      by_cases e : j = i
      · subst e; exact absurd rfl hne
      · omega
theorem start_sz {A : Aut} (h : Ok A) {C : Int} (hC : 3 ≤ C) {s : List Int} (hs : Start A A.2.2.2.1.length s) : Sz A C s := by
  refine ⟨hs.len, fun q => by rcases hs.one q with e | e <;> omega, fun q h0 h1 hne => ?_, fun l hl => ?_⟩
  · obtain ⟨l, hl, rfl⟩ := hs.why q h0 h1 hne
    refine ⟨_, _, .leaf hl, ?_⟩
    have : at0 s l.2.1 = 1 := (hs.one _).resolve_left hne
    rw [this]
    unfold capC
    simp only [List.length_cons, List.length_nil]
    split <;> omega
  · obtain ⟨j, hj, rfl⟩ := List.getElem_of_mem hl
    exact hs.leaf j hj hj

/-- One round over the branches: of the sizes, and whether one has changed. -/
def stepS (C : Int) (p : List Int × Bool) (b : T_api_Branch) : List Int × Bool := if hit C p.1 b then (p.1.set b.2.2.2.1.toNat (newV C p.1 b), true) else p
structure Round (A : Aut) (C : Int) (s0 : List Int) (i : Nat) (p : List Int × Bool) : Prop where
  sz : Sz A C p.1
  same : p.2 = false → p.1 = s0 ∧ ∀ j (hj : j < A.2.2.2.2.1.length), j < i → ¬ hit C s0 A.2.2.2.2.1[j]
  fell : p.2 = true → pot C p.1 < pot C s0
  le : pot C p.1 ≤ pot C s0
theorem round_step {A : Aut} (h : Ok A) {C : Int} (hC : 3 ≤ C) {s0 : List Int} {i : Nat} {p : List Int × Bool} (hi : i < A.2.2.2.2.1.length) (hr : Round A C s0 i p) : Round A C s0 (i + 1) (stepS C p A.2.2.2.2.1[i]) := by
  unfold stepS
  have hb := List.getElem_mem hi
  obtain ⟨_, ⟨f1, f2⟩, ⟨g1, g2⟩, t1, t2⟩ := h.branch _ hb
  split
  · rename_i hh
    have hpos : 1 ≤ newV C p.1 A.2.2.2.2.1[i] ∧ newV C p.1 A.2.2.2.2.1[i] ≤ C := by
      have e1 := hr.sz.val A.2.2.2.2.1[i].2.1
      have e2 := hr.sz.val A.2.2.2.2.1[i].2.2.1
      have e3 := hh.1
      exact ⟨by unfold newV capC; split <;> omega, capC_le⟩
    have hlt := pot_set t1 (by have := hr.sz.len; omega) hpos (hr.sz.val _) hh.2
    exact ⟨sz_step h hC hr.sz hb hh, fun e => (by cases e), fun _ => Nat.lt_of_lt_of_le hlt hr.le, Nat.le_of_lt (Nat.lt_of_lt_of_le hlt hr.le)⟩
  · rename_i hh
    refine ⟨hr.sz, fun e => ⟨(hr.same e).1, fun j hj hlt => ?_⟩, hr.fell, hr.le⟩
    by_cases e2 : j = i
    · subst e2
      rw [← (hr.same e).1]; exact hh
    · exact (hr.same e).2 j hj (by omega)
theorem round0 {A : Aut} {C : Int} {s : List Int} (hs : Sz A C s) : Round A C s 0 (s, false) := ⟨hs, fun _ => ⟨rfl, fun j _ hj => absurd hj (by omega)⟩, fun e => (by cases e), Nat.le_refl _⟩
theorem round_end {A : Aut} {C : Int} {s0 : List Int} {p : List Int × Bool} (hr : Round A C s0 A.2.2.2.2.1.length p) (hp : p.2 = false) : Closed A C p.1 := by
  obtain ⟨h1, h2⟩ := hr.same hp
  refine ⟨hr.sz, fun b hb => ?_⟩
  obtain ⟨j, hj, rfl⟩ := List.getElem_of_mem hb
  rw [h1]
  exact h2 j hj hj

theorem sumW {C a b : Int} (ha : 0 ≤ a ∧ a ≤ C) (hb : 0 ≤ b ∧ b ≤ C) (hC : C ≤ 1099511627776) : IntKind.i64.wrap (IntKind.i64.wrap (1 + a) + b) = 1 + a + b := by
  rw [wrap64 (n := 1 + a) (by omega) (by omega), wrap64 (by omega) (by omega)]

section
variable {A : Aut} (hsm : small A) (h : Ok A)
include hsm h

/-- The document's sizes. -/
theorem fewest_sizes : ∃ s, Closed A 4097 s ∧ ∃ s1, loopP (ref07_Fewest_l3 A) (List.replicate A.2.1.toNat 0, 0) = some s1 ∧ loopP (ref07_Fewest_l7 A) (s1, true) = some s := by
  obtain ⟨_, _, t3, t4⟩ := h.top
  have l3 := loop_fold (body := ref07_Fewest_l3 A) A.2.2.2.1 (fun s l => s.set l.2.1.toNat 1) (fun s i => (s, i)) id (fun i s => Start A i s) (s0 := List.replicate A.2.1.toNat 0) hsm.2.1 start0 (fun i s hi hs => ⟨by
    obtain ⟨_, q1, q2⟩ := h.leaf _ (List.getElem_mem hi)
    simp only [ref07_Fewest_l3, ltIf hi, gdIx hi, getDi hi, gd_pos (And.intro q1 q2)], start_step h hi hs⟩) (fun s _ => by simp only [ref07_Fewest_l3, ltEnd, id])
  have hs1 := start_sz (C := 4097) h (by decide) l3.2
  -- one round
  have rnd : ∀ s, Sz A 4097 s → ∃ p : List Int × Bool, loopP (ref07_Fewest_l10 A) (s, false, 0) = some p ∧ Round A 4097 s A.2.2.2.2.1.length p := by
    intro s hs
    have l10 := loop_fold (body := ref07_Fewest_l10 A) A.2.2.2.2.1 (stepS 4097) (fun p i => (p.1, p.2, i)) id (fun i p => Round A 4097 s i p) (s0 := (s, false)) hsm.2.2 (round0 hs) (fun i p hi hr => ⟨by
      obtain ⟨_, ⟨f1, f2⟩, ⟨g1, g2⟩, k1, k2⟩ := h.branch _ (List.getElem_mem hi)
      have e1 := hr.sz.val A.2.2.2.2.1[i].2.1
      have e2 := hr.sz.val A.2.2.2.2.1[i].2.2.1
      have hw := sumW e1 e2 (by decide)
      have hcap : (if 1 + at0 p.1 A.2.2.2.2.1[i].2.1 + at0 p.1 A.2.2.2.2.1[i].2.2.1 < 4097 then 1 + at0 p.1 A.2.2.2.2.1[i].2.1 + at0 p.1 A.2.2.2.2.1[i].2.2.1 else 4097) = newV 4097 p.1 A.2.2.2.2.1[i] := by
        unfold newV capC; split <;> split <;> omega
      unfold at0 at hw hcap
      simp only [ref07_Fewest_l10, ltIf hi, gdIx hi, getDi hi, gd_pos (And.intro f1 f2), gd_pos (And.intro g1 g2), gd_pos (And.intro k1 k2), ref07_Fewest_q13, ref07_Fewest_q15, ref07_Fewest_j11, hw, hcap]
      exact (hit_if 4097 p.1 A.2.2.2.2.1[i] _ _).trans (by unfold stepS; split <;> rfl), round_step h (by decide) hi hr⟩) (fun p _ => by simp only [ref07_Fewest_l10, ltEnd, id])
    exact ⟨_, l10.1, l10.2⟩
  obtain ⟨s, hl, hcl⟩ := loop_inv (body := ref07_Fewest_l7 A) (Inv := fun x => Sz A 4097 x.1 ∧ (x.2 = false → Closed A 4097 x.1)) (Post := fun s => Closed A 4097 s) (fun x => 2 * pot 4097 x.1 + (if x.2 = true then 1 else 0)) (by
    rintro ⟨s, ag⟩ ⟨hs, hcl⟩
    cases ag with
    | false => exact .inr ⟨s, by simp [ref07_Fewest_l7], hcl rfl⟩
    | true =>
      left
      obtain ⟨p, hp, hr⟩ := rnd s hs
      refine ⟨p, by simp [ref07_Fewest_l7, hp], ⟨hr.sz, fun e => round_end hr e⟩, ?_⟩
      simp only [if_true]
      cases hp2 : p.2 with
      | true => have := hr.fell hp2; simp; omega
      | false => have := hr.le; simp; omega) (_, true) ⟨hs1, fun e => (by cases e)⟩
  exact ⟨s, hcl, _, l3.1, hl⟩

/-- The code's sizes. -/
theorem grow_eq : ∃ s lf fr, Closed A 1099511627776 s ∧ Wit A 1099511627776 s lf fr ∧ tree_grow A = some (s, lf, fr, ()) := by
  obtain ⟨_, _, t3, t4⟩ := h.top
  have l3 := loop_fold (body := tree_grow_l3 A) A.2.2.2.1 (fun p l => (p.1.set l.2.1.toNat 1, p.2.set l.2.1.toNat l.1)) (fun p i => (p.1, p.2, i)) id
    (fun i p => Start A i p.1 ∧ p.2.length = A.2.1.toNat ∧ ∀ q, 0 ≤ q → q < A.2.1 → at0 p.1 q ≠ 0 → 0 ≤ at0 p.2 q ∧ ∃ l ∈ A.2.2.2.1, l.2.1 = q ∧ l.1 = at0 p.2 q) (s0 := (List.replicate A.2.1.toNat 0, List.replicate A.2.1.toNat 0)) hsm.2.1
    ⟨start0, by simp, fun q _ _ hne => absurd ((start0 (A := A)).one q) (by intro e; rcases e with e | e; exact hne e; have := (start0 (A := A)).why q (by assumption) (by assumption) hne; obtain ⟨l, hl, rfl⟩ := this; unfold at0 at e; rw [List.getD_eq_getElem?_getD, List.getElem?_replicate] at e; split at e <;> simp at e)⟩
    (fun i p hi ⟨hs, hl, hw⟩ => ⟨by
      obtain ⟨_, q1, q2⟩ := h.leaf _ (List.getElem_mem hi)
      simp only [tree_grow_l3, ltIf hi, gdIx hi, getDi hi, gd_pos (And.intro q1 q2)], start_step h hi hs, by simpa using hl, fun q h0 h1 hne => by
        obtain ⟨⟨x1, x2⟩, q1, q2⟩ := h.leaf _ (List.getElem_mem hi)
        have hlen := hs.len
        rw [at0_set q1 h0 (by omega)] at hne
        rw [at0_set q1 h0 (by omega)]
        by_cases he : q = A.2.2.2.1[i].2.1
        · rw [if_pos he]
          exact ⟨x1, _, List.getElem_mem hi, he.symm, rfl⟩
        · rw [if_neg he] at hne ⊢
          exact hw q h0 h1 hne⟩) (fun p _ => by simp only [tree_grow_l3, ltEnd, id])
  obtain ⟨l3e, hst, hll, hlw⟩ := l3
  have hs1 := start_sz (C := 1099511627776) h (by decide) hst
  generalize hp1 : A.2.2.2.1.foldl (fun p l => (p.1.set l.2.1.toNat 1, p.2.set l.2.1.toNat l.1)) (List.replicate A.2.1.toNat (0 : Int), List.replicate A.2.1.toNat (0 : Int)) = p1 at l3e hst hll hlw hs1
  have hw1 : Wit A 1099511627776 p1.1 p1.2 (List.replicate A.2.1.toNat Z_api_Branch) := ⟨hll, by simp, fun q h0 h1 hne => .inl ⟨(hlw q h0 h1 hne).1, (hst.one q).resolve_left hne, (hlw q h0 h1 hne).2⟩⟩
  -- one round
  have rnd : ∀ s lf fr, Sz A 1099511627776 s → Wit A 1099511627776 s lf fr → ∃ p : List Int × List Int × List T_api_Branch × Bool, loopP (tree_grow_l11 A) (s, lf, fr, false, 0) = some p ∧ Round A 1099511627776 s A.2.2.2.2.1.length (p.1, p.2.2.2) ∧ Wit A 1099511627776 p.1 p.2.1 p.2.2.1 := by
    intro s lf fr hs hw
    have l11 := loop_fold (body := tree_grow_l11 A) A.2.2.2.2.1 (fun (p : List Int × List Int × List T_api_Branch × Bool) b => if hit 1099511627776 p.1 b then (p.1.set b.2.2.2.1.toNat (newV 1099511627776 p.1 b), p.2.1.set b.2.2.2.1.toNat (-1), p.2.2.1.set b.2.2.2.1.toNat b, true) else p) (fun p i => (p.1, p.2.1, p.2.2.1, p.2.2.2, i)) id
      (fun i p => Round A 1099511627776 s i (p.1, p.2.2.2) ∧ Wit A 1099511627776 p.1 p.2.1 p.2.2.1) (s0 := (s, lf, fr, false)) hsm.2.2 ⟨round0 hs, hw⟩ (fun i p hi ⟨hr, hw⟩ => ⟨by
      obtain ⟨_, ⟨f1, f2⟩, ⟨g1, g2⟩, k1, k2⟩ := h.branch _ (List.getElem_mem hi)
      have e1 := hr.sz.val A.2.2.2.2.1[i].2.1
      have e2 := hr.sz.val A.2.2.2.2.1[i].2.2.1
      have hwr := sumW e1 e2 (by decide)
      have hcap : (if 1099511627776 < 1 + at0 p.1 A.2.2.2.2.1[i].2.1 + at0 p.1 A.2.2.2.2.1[i].2.2.1 then 1099511627776 else 1 + at0 p.1 A.2.2.2.2.1[i].2.1 + at0 p.1 A.2.2.2.2.1[i].2.2.1) = newV 1099511627776 p.1 A.2.2.2.2.1[i] := rfl
      unfold at0 at hwr hcap
      simp only at hwr hcap
      simp only [tree_grow_l11, ltIf hi, gdIx hi, getDi hi, gd_pos (And.intro f1 f2), gd_pos (And.intro g1 g2), gd_pos (And.intro k1 k2), tree_grow_q13, tree_grow_q15, tree_grow_j18, hwr, hcap]
      exact (hit_if 1099511627776 p.1 A.2.2.2.2.1[i] _ _).trans (by split <;> rfl), by
      have := round_step h (by decide) hi hr
      unfold stepS at this
      simp only at this
      split
      · rename_i hh; rw [if_pos hh] at this; exact ⟨this, wit_step h (by decide) hr.sz hw (List.getElem_mem hi) hh⟩
      · rename_i hh; rw [if_neg hh] at this; exact ⟨this, hw⟩⟩) (fun p _ => by simp only [tree_grow_l11, ltEnd, id])
    exact ⟨_, l11.1, l11.2⟩
  obtain ⟨e, hl, hcl⟩ := loop_inv (body := tree_grow_l8 A) (Inv := fun x => Sz A 1099511627776 x.1 ∧ Wit A 1099511627776 x.1 x.2.1 x.2.2.1 ∧ (x.2.2.2 = false → Closed A 1099511627776 x.1)) (Post := fun e => Closed A 1099511627776 e.1 ∧ Wit A 1099511627776 e.1 e.2.1 e.2.2) (fun x => 2 * pot 1099511627776 x.1 + (if x.2.2.2 = true then 1 else 0)) (by
    rintro ⟨s, lf, fr, ag⟩ ⟨hs, hw, hcl⟩
    cases ag with
    | false => exact .inr ⟨(s, lf, fr), by simp [tree_grow_l8], hcl rfl, hw⟩
    | true =>
      left
      obtain ⟨p, hp, hr, hwp⟩ := rnd s lf fr hs hw
      refine ⟨p, by simp [tree_grow_l8, hp], ⟨hr.sz, hwp, fun e => round_end hr e⟩, ?_⟩
      simp only [if_true]
      cases hp2 : p.2.2.2 with
      | true => have := hr.fell hp2; simp at this ⊢; omega
      | false => have := hr.le; simp at this ⊢; omega) (p1.1, p1.2, List.replicate A.2.1.toNat Z_api_Branch, true) ⟨hs1, hw1, fun e => (by cases e)⟩
  refine ⟨e.1, e.2.1, e.2.2, hcl.1, hcl.2, ?_⟩
  unfold tree_grow
  rw [gd_pos ⟨t3, by omega, by omega⟩, gd_pos ⟨t3, by omega, by omega⟩]
  rw [l3e]
  simp only [id, Option.bind_some, hl]
  rw [List.take_of_length_le (Nat.le_of_eq hcl.1.len), List.take_of_length_le (Nat.le_of_eq hcl.2.len1), List.take_of_length_le (Nat.le_of_eq hcl.2.len2)]
end
end Go.Lite.Fam
end

section
/-
  PURE E: the law TreeWitnesses.
-/
set_option linter.unusedVariables false
set_option linter.unusedSimpArgs false
namespace Go.Lite.Fam
open Go Go.Lite

/-! ### Trees of a state are accepted -/
theorem gen_len {A : Aut} {q : Int} {sh lb : List Int} (hg : Gen A q sh lb) : lb.length = sh.length ∧ 1 ≤ sh.length := by
  induction hg with
  | leaf _ => simp
  | branch _ _ _ ih1 ih2 => simp only [List.length_cons, List.length_append]; omega
theorem gen_lab {A : Aut} (h : Ok A) {q : Int} {sh lb : List Int} (hg : Gen A q sh lb) : ∀ x ∈ lb, okLab A.1 x = true := by
  induction hg with
  | leaf hl =>
    obtain ⟨⟨x1, x2⟩, _⟩ := h.leaf _ hl
    intro x hx
    simp at hx
    subst hx
    simp [okLab, x1, x2]
  | branch hb _ _ ih1 ih2 =>
    obtain ⟨⟨x1, x2⟩, _⟩ := h.branch _ hb
    intro x hx
    simp only [List.mem_cons, List.mem_append] at hx
    rcases hx with rfl | hx | hx
    · simp [okLab, x1, x2]
    · exact ih1 x hx
    · exact ih2 x hx
theorem gen_shape {A : Aut} {q : Int} {sh lb : List Int} (hg : Gen A q sh lb) : ∀ op : Int, 1 ≤ op → sh.foldl shapeStep (some op) = some (op - 1) := by
  induction hg with
  | leaf _ => intro op h; simp [shapeStep, show ¬ op = 0 by omega]; omega
  | branch _ _ _ ih1 ih2 =>
    intro op h
    simp only [List.foldl_cons, List.foldl_append, shapeStep]
    rw [if_neg (by omega), ih1 _ (by omega), ih2 _ (by omega)]
    congr 1; omega
theorem fold_mark {α : Type} {n : Nat} {f : List Bool → α → List Bool} (hl : ∀ m a, (f m a).length = m.length) (hk : ∀ m a q, m.length = n → m.getD q false = true → (f m a).getD q false = true) : ∀ (l : List α) (m : List Bool) (q : Nat), m.length = n → (m.getD q false = true ∨ ∃ a ∈ l, ∀ m, m.length = n → (f m a).getD q false = true) → (l.foldl f m).getD q false = true
  | [], m, q, hm, h => by
    rcases h with h | ⟨a, ha, _⟩
    · exact h
    · cases ha
  | a :: l, m, q, hm, h => by
    simp only [List.foldl_cons]
    refine fold_mark hl hk l _ q (by rw [hl, hm]) ?_
    rcases h with h | ⟨b, hb, h⟩
    · exact .inl (hk m a q hm h)
    · rcases List.mem_cons.1 hb with rfl | hb
      · exact .inl (h m hm)
      · exact .inr ⟨b, hb, h⟩
theorem set_keep {m : List Bool} {p q : Nat} (h : m.getD q false = true) : (m.set p true).getD q false = true := by
  have hq : q < m.length := by
    by_cases hq : q < m.length
    · exact hq
    · rw [List.getD_eq_getElem?_getD, List.getElem?_eq_none (by omega)] at h; cases h
  rw [getDn hq] at h
  rw [getDn (by simpa using hq), List.getElem_set]
  split
  · rfl
  · exact h
theorem leafMarks_mem {A : Aut} (h : Ok A) {l : T_api_Leaf} (hl : l ∈ A.2.2.2.1) : (leafMarks A l.1).getD l.2.1.toNat false = true := by
  obtain ⟨_, q1, q2⟩ := h.leaf l hl
  refine fold_mark (n := A.2.1.toNat) (fun m a => by unfold leafMark; split <;> simp) (fun m a q _ hm => by unfold leafMark; split; exact set_keep hm; exact hm) _ _ _ (by simp) (.inr ⟨l, hl, fun m hm => ?_⟩)
  unfold leafMark
  rw [if_pos (by simp), getDn (by simp; omega), List.getElem_set_self]
theorem branchMarks_mem {A : Aut} (h : Ok A) {b : T_api_Branch} (hb : b ∈ A.2.2.2.2.1) {f g : List Bool} (hf : f.getD b.2.1.toNat false = true) (hg : g.getD b.2.2.1.toNat false = true) : (branchMarks A b.1 f g).getD b.2.2.2.1.toNat false = true := by
  obtain ⟨_, _, _, t1, t2⟩ := h.branch b hb
  refine fold_mark (n := A.2.1.toNat) (fun m a => by unfold branchMark; split <;> simp) (fun m a q _ hm => by unfold branchMark; split; exact set_keep hm; exact hm) _ _ _ (by simp) (.inr ⟨b, hb, fun m hm => ?_⟩)
  unfold branchMark
  rw [if_pos (by simp only [branchHit, hf, hg, beq_self_eq_true, Bool.and_self]), getDn (by simp; omega), List.getElem_set_self]
theorem gen_stk {A : Aut} (h : Ok A) {q : Int} {sh lb : List Int} (hg : Gen A q sh lb) : ∀ rest, ∃ m, stk (leafMarks A) (branchMarks A) (sh.zip lb ++ rest) = m :: stk (leafMarks A) (branchMarks A) rest ∧ m.getD q.toNat false = true := by
  induction hg with
  | leaf hl => exact fun rest => ⟨_, by simp [stk], leafMarks_mem h hl⟩
  | @branch b s1 l1 s2 l2 hb h1 h2 ih1 ih2 =>
    intro rest
    have hz : (2 :: (s1 ++ s2)).zip (b.1 :: (l1 ++ l2)) ++ rest = (2, b.1) :: (s1.zip l1 ++ (s2.zip l2 ++ rest)) := by
      rw [List.zip_cons_cons, List.zip_append (gen_len h1).1.symm]
      simp
    obtain ⟨m1, e1, k1⟩ := ih1 (s2.zip l2 ++ rest)
    obtain ⟨m2, e2, k2⟩ := ih2 rest
    refine ⟨_, ?_, branchMarks_mem h hb k1 k2⟩
    rw [hz]
    simp only [stk]
    rw [if_neg (by decide), e1, e2]
theorem gen_accepts {A : Aut} (hs : small A) (h : Ok A) {q : Int} {sh lb : List Int} (hg : Gen A q sh lb) (hq : q ∈ A.2.2.1) (hl : sh.length ≤ 4095) : ref07_Accepts A sh lb = some (true, 0) := by
  obtain ⟨e1, e2⟩ := gen_len hg
  have ht : okTree A.1 sh lb = true := by
    have h1 := gen_shape hg 1 (by omega)
    simp only [okTree, Bool.and_eq_true, decide_eq_true_eq, List.all_eq_true]
    refine ⟨⟨⟨e2, hl, e1⟩, ?_⟩, gen_lab h hg⟩
    unfold shapeOk shapeRun
    rw [h1]; rfl
  obtain ⟨m, h1, h2⟩ := accepts_doc hs h ht
  obtain ⟨m', e3, e4⟩ := gen_stk h hg []
  rw [List.append_nil] at e3
  unfold stkMarks at h1
  rw [h1] at e3
  injection e3 with e3
  subst e3
  rw [h2, List.any_eq_true.2 ⟨q, hq, e4⟩]

/-! ### The tree that is written -/
section
variable {A : Aut} (h : Ok A) {s lf : List Int} {fr : List T_api_Branch} (hc : Closed A 1099511627776 s) (hw : Wit A 1099511627776 s lf fr)
include h hc hw

theorem write_v2 : ∀ (k : Nat) (q : Int), 0 ≤ q → q < A.2.1 → at0 s q ≠ 0 → at0 s q ≤ (k : Nat) → k ≤ 4095 → ∃ sh lb, Gen A q sh lb ∧ (sh.length : Int) ≤ at0 s q ∧ ∀ n x2 x3, k ≤ n → x2.length ≤ 4095 → x3.length ≤ 4095 → x2.length + sh.length ≤ 4095 → x3.length + sh.length ≤ 4095 → tree_growth_write_v2 n (s, lf, fr, ()) q x2 x3 = some (x2 ++ sh, x3 ++ lb) := by
  intro k
  induction k with
  | zero => intro q h0 h1 hne hle _; have := hc.val q; omega
  | succ k ih =>
    intro q h0 h1 hne hle hk
    have hl1 := hw.len1
    have hl2 := hw.len2
    have g1 : 0 ≤ q ∧ q < (lf.length : Nat) := ⟨h0, by omega⟩
    have g2 : 0 ≤ q ∧ q < (fr.length : Nat) := ⟨h0, by omega⟩
    rcases hw.how q h0 h1 hne with ⟨a1, a2, l, hl, rfl, a3⟩ | ⟨a1, b, hb, a2, rfl, a4, a5, a6⟩
    · refine ⟨_, _, .leaf hl, by simp [a2], fun n x2 x3 hn b1 b2 b3 b4 => ?_⟩
      obtain ⟨n, rfl⟩ : ∃ n', n = n' + 1 := ⟨n - 1, by omega⟩
      have e1 : (decide (lf.getD l.2.1.toNat 0 ≥ 0)) = true := by have : 0 ≤ lf.getD l.2.1.toNat 0 := a1; simpa using this
      simp only [tree_growth_write_v2, tree_growth_write_v2_b, gd_pos g1, e1, if_true]
      rw [gd_pos (by simp only [List.length_cons, List.length_nil]; omega), gd_pos (by simp only [List.length_cons, List.length_nil]; omega)]
      have : lf.getD l.2.1.toNat 0 = l.1 := a3.symm
      rw [this]
    · obtain ⟨_, ⟨f1, f2⟩, ⟨p1, p2⟩, t1, t2⟩ := h.branch b hb
      have v1 := hc.val b.2.1
      have v2 := hc.val b.2.2.1
      have hsum : 1 + at0 s b.2.1 + at0 s b.2.2.1 ≤ at0 s b.2.2.2.1 := by
        unfold capC at a6
        split at a6 <;> omega
      obtain ⟨s1, l1, e1, e2, e3⟩ := ih b.2.1 f1 f2 a4 (by omega) (by omega)
      obtain ⟨s2, l2, e4, e5, e6⟩ := ih b.2.2.1 p1 p2 a5 (by omega) (by omega)
      refine ⟨_, _, .branch hb e1 e4, by simp only [List.length_cons, List.length_append]; omega, fun n x2 x3 hn b1 b2 b3 b4 => ?_⟩
      obtain ⟨n, rfl⟩ : ∃ n', n = n' + 1 := ⟨n - 1, by omega⟩
      simp only [List.length_cons, List.length_append] at b3 b4
      have c1 : (decide (lf.getD b.2.2.2.1.toNat 0 ≥ 0)) = false := by have : lf.getD b.2.2.2.1.toNat 0 < 0 := a1; exact decide_eq_false (by omega)
      have g1l := (gen_len e1).1
      simp only [tree_growth_write_v2, tree_growth_write_v2_b, gd_pos g1, gd_pos g2, c1, Bool.false_eq_true, if_false, a2]
      rw [gd_pos (by simp only [List.length_cons, List.length_nil]; omega), gd_pos (by simp only [List.length_cons, List.length_nil]; omega)]
      rw [e3 n _ _ (by omega) (by simp; omega) (by simp; omega) (by simp; omega) (by simp; omega)]
      simp only [Option.bind_some]
      rw [e6 n _ _ (by omega) (by simp; omega) (by simp; omega) (by simp; omega) (by simp; omega)]
      simp

theorem write_top {q : Int} (h0 : 0 ≤ q) (h1 : q < A.2.1) (hne : at0 s q ≠ 0) (hle : at0 s q ≤ 4095) : ∃ sh lb, Gen A q sh lb ∧ (sh.length : Int) = at0 s q ∧ tree_growth_write (s, lf, fr, ()) q = some (sh, lb) := by
  have key : ∀ sh lb, Gen A q sh lb → (sh.length : Int) ≤ at0 s q → (sh.length : Int) = at0 s q := by
    intro sh lb hg hl
    obtain ⟨_, _, h3⟩ := sz_least h (by decide) hc hg
    have := capC_le' (C := 1099511627776) (v := (sh.length : Nat))
    omega
  have hl1 := hw.len1
  have hl2 := hw.len2
  have g1 : 0 ≤ q ∧ q < (lf.length : Nat) := ⟨h0, by omega⟩
  have g2 : 0 ≤ q ∧ q < (fr.length : Nat) := ⟨h0, by omega⟩
  rcases hw.how q h0 h1 hne with ⟨a1, a2, l, hl, rfl, a3⟩ | ⟨a1, b, hb, a2, rfl, a4, a5, a6⟩
  · refine ⟨_, _, .leaf hl, by simp [a2], ?_⟩
    have e1 : (decide (lf.getD l.2.1.toNat 0 ≥ 0)) = true := by have : 0 ≤ lf.getD l.2.1.toNat 0 := a1; simpa using this
    simp only [tree_growth_write, gd_pos g1, e1, if_true]
    have : lf.getD l.2.1.toNat 0 = l.1 := a3.symm
    rw [this]
  · obtain ⟨_, ⟨f1, f2⟩, ⟨p1, p2⟩, t1, t2⟩ := h.branch b hb
    have v1 := hc.val b.2.1
    have v2 := hc.val b.2.2.1
    have hsum : 1 + at0 s b.2.1 + at0 s b.2.2.1 ≤ at0 s b.2.2.2.1 := by
      unfold capC at a6
      split at a6 <;> omega
    obtain ⟨s1, l1, e1, e2, e3⟩ := write_v2 h hc hw 4095 b.2.1 f1 f2 a4 (by omega) (by omega)
    obtain ⟨s2, l2, e4, e5, e6⟩ := write_v2 h hc hw 4095 b.2.2.1 p1 p2 a5 (by omega) (by omega)
    have hg : Gen A b.2.2.2.1 (2 :: (s1 ++ s2)) (b.1 :: (l1 ++ l2)) := .branch hb e1 e4
    refine ⟨_, _, hg, key _ _ hg (by simp only [List.length_cons, List.length_append]; omega), ?_⟩
    have c1 : (decide (lf.getD b.2.2.2.1.toNat 0 ≥ 0)) = false := by have : lf.getD b.2.2.2.1.toNat 0 < 0 := a1; exact decide_eq_false (by omega)
    have g1l := (gen_len e1).1
    simp only [tree_growth_write, gd_pos g1, gd_pos g2, c1, Bool.false_eq_true, if_false, a2]
    rw [limP_of 4095 (fun n hn => e3 n [2] [b.1] hn (by simp) (by simp) (by simp; omega) (by simp; omega))]
    simp only [Option.bind_some]
    rw [limP_of 4095 (fun n hn => e6 n _ _ hn (by simp; omega) (by simp; omega) (by simp; omega) (by simp; omega))]
    simp
end

/-! ### The best of the accepting states -/
/-- The least of the sizes that are there; 0: none. -/
def bestV (s : List Int) (b : Int) (q : Int) : Int := if 0 < at0 s q ∧ (b = 0 ∨ at0 s q < b) then at0 s q else b
def bestQ (s : List Int) (b : Int) (q : Int) : Int := if 0 < at0 s q ∧ (b < 0 ∨ at0 s q < at0 s b) then q else b
theorem bestV_ok {s : List Int} (hs : ∀ q, 0 ≤ at0 s q) : ∀ (l : List Int) (b : Int), 0 ≤ b → (0 ≤ l.foldl (bestV s) b) ∧ (l.foldl (bestV s) b = b ∨ ∃ q ∈ l, 0 < at0 s q ∧ l.foldl (bestV s) b = at0 s q) ∧ (0 < b → l.foldl (bestV s) b ≤ b ∧ 0 < l.foldl (bestV s) b) ∧ ∀ q ∈ l, 0 < at0 s q → 0 < l.foldl (bestV s) b ∧ l.foldl (bestV s) b ≤ at0 s q
  | [], b, hb => ⟨hb, .inl rfl, fun h => ⟨Int.le_refl _, h⟩, by simp⟩
  | x :: l, b, hb => by
    simp only [List.foldl_cons]
    have hb' : 0 ≤ bestV s b x := by unfold bestV; split; exact hs x; exact hb
    obtain ⟨h1, h2, h3, h4⟩ := bestV_ok hs l (bestV s b x) hb'
    refine ⟨h1, ?_, fun h => ?_, fun q hq hpos => ?_⟩
    · rcases h2 with h2 | ⟨q, hq, h2⟩
      · unfold bestV at h2 ⊢
        split at h2
        · rename_i hx
          rw [if_pos hx]
          exact .inr ⟨x, by simp, hx.1, h2⟩
        · rename_i hx
          rw [if_neg hx]
          exact .inl h2
      · exact .inr ⟨q, by simp [hq], h2⟩
    · have : 0 < bestV s b x ∧ bestV s b x ≤ b := by unfold bestV; split <;> omega
      have := h3 this.1
      omega
    · rcases List.mem_cons.1 hq with rfl | hq
      · have : 0 < bestV s b q ∧ bestV s b q ≤ at0 s q := by unfold bestV; split <;> omega
        have := h3 this.1
        omega
      · exact h4 q hq hpos
theorem bestQ_ok {s : List Int} : ∀ (l : List Int) (b : Int), (∀ q ∈ l, 0 ≤ q) → (b = -1 ∨ (0 ≤ b ∧ 0 < at0 s b)) → (l.foldl (bestQ s) b = b ∨ l.foldl (bestQ s) b ∈ l) ∧ (l.foldl (bestQ s) b = -1 ∨ (0 ≤ l.foldl (bestQ s) b ∧ 0 < at0 s (l.foldl (bestQ s) b))) ∧ (0 ≤ b → 0 ≤ l.foldl (bestQ s) b ∧ at0 s (l.foldl (bestQ s) b) ≤ at0 s b) ∧ ∀ q ∈ l, 0 < at0 s q → 0 ≤ l.foldl (bestQ s) b ∧ at0 s (l.foldl (bestQ s) b) ≤ at0 s q
  | [], b, _, hb => ⟨.inl rfl, hb, fun h => ⟨h, Int.le_refl _⟩, by simp⟩
  | x :: l, b, hl, hb => by
    simp only [List.foldl_cons]
    have hx := hl x (by simp)
    have hb' : bestQ s b x = -1 ∨ (0 ≤ bestQ s b x ∧ 0 < at0 s (bestQ s b x)) := by
      unfold bestQ; split
      · rename_i h; exact .inr ⟨hx, h.1⟩
      · exact hb
    obtain ⟨h1, h2, h3, h4⟩ := bestQ_ok l (bestQ s b x) (fun q hq => hl q (by simp [hq])) hb'
    refine ⟨?_, h2, fun h => ?_, fun q hq hpos => ?_⟩
    · rcases h1 with h1 | h1
      · rw [h1]
        unfold bestQ
        split
        · exact .inr (by simp)
        · exact .inl rfl
      · exact .inr (by simp [h1])
    · have : 0 ≤ bestQ s b x ∧ at0 s (bestQ s b x) ≤ at0 s b := by
        unfold bestQ; split
        · rename_i e; exact ⟨hx, by rcases e.2 with e | e <;> omega⟩
        · exact ⟨h, Int.le_refl _⟩
      have := h3 this.1
      omega
    · rcases List.mem_cons.1 hq with rfl | hq
      · have : 0 ≤ bestQ s b q ∧ at0 s (bestQ s b q) ≤ at0 s q := by
          unfold bestQ; split
          · exact ⟨hx, Int.le_refl _⟩
          · rename_i e
            rcases hb with hb | hb
            · exact absurd ⟨hpos, .inl (by omega)⟩ e
            · refine ⟨hb.1, ?_⟩
              by_cases c : at0 s q < at0 s b
              · exact absurd ⟨hpos, .inr c⟩ e
              · omega
        have := h3 this.1
        omega
      · exact h4 q hq hpos

section
variable {A : Aut} (hsm : small A) (h : Ok A)
include hsm h

theorem fewest_eq : ∃ s, Closed A 4097 s ∧ ref07_Fewest A = some (A.2.2.1.foldl (bestV s) 0, decide (A.2.2.1.foldl (bestV s) 0 > 0)) := by
  obtain ⟨_, _, t3, t4⟩ := h.top
  obtain ⟨s, hc, s1, e1, e2⟩ := fewest_sizes hsm h
  refine ⟨s, hc, ?_⟩
  unfold ref07_Fewest
  rw [gd_pos ⟨t3, by omega, by omega⟩, e1]
  simp only [Option.bind_some]
  rw [e2]
  simp only [Option.bind_some]
  have l20 := loop_fold (body := ref07_Fewest_l20 A s) A.2.2.1 (bestV s) (fun b i => (b, i)) id (fun _ b => True) (s0 := (0 : Int)) hsm.1 trivial (fun i b hi _ => ⟨by
    obtain ⟨q1, q2⟩ := h.acc _ (List.getElem_mem hi)
    simp only [ref07_Fewest_l20, ltIf hi, gdIx hi, getDi hi, gd_pos (And.intro q1 q2), ref07_Fewest_q23, ref07_Fewest_j21, bestV]
    unfold at0
    by_cases c1 : 0 < s.getD A.2.2.1[i].toNat 0
    · by_cases c2 : b = 0
      · simp [c1, c2, -List.getD_eq_getElem?_getD]
      · by_cases c3 : s.getD A.2.2.1[i].toNat 0 < b
        · simp [c1, c2, c3, -List.getD_eq_getElem?_getD]
        · simp [c1, c2, c3, -List.getD_eq_getElem?_getD]
    · simp [c1, -List.getD_eq_getElem?_getD], trivial⟩) (fun b _ => by simp only [ref07_Fewest_l20, ltEnd, id])
  rw [l20.1]
  rfl
theorem witness_best {s lf : List Int} {fr : List T_api_Branch} (hlen : s.length = A.2.1.toNat) (hv : ∀ q, 0 ≤ at0 s q) : loopP (tree_Witness_l7 A (s, lf, fr, ())) (-1, 0) = some (A.2.2.1.foldl (bestQ s) (-1)) := by
  have l7 := loop_fold (body := tree_Witness_l7 A (s, lf, fr, ())) A.2.2.1 (bestQ s) (fun b i => (b, i)) id (fun _ b => b < (s.length : Nat)) (s0 := (-1 : Int)) hsm.1 (by omega) (fun i b hi hb => ⟨by
    obtain ⟨q1, q2⟩ := h.acc _ (List.getElem_mem hi)
    have q3 : 0 ≤ A.2.2.1[i] ∧ A.2.2.1[i] < (s.length : Nat) := ⟨q1, by omega⟩
    simp only [tree_Witness_l7, ltIf hi, gdIx hi, getDi hi, gd_pos q3, tree_Witness_q9, tree_Witness_j11, bestQ]
    unfold at0
    by_cases c1 : 0 < s.getD A.2.2.1[i].toNat 0
    · by_cases c2 : b < 0
      · simp [c1, c2, -List.getD_eq_getElem?_getD]
      · have g : 0 ≤ b ∧ b < (s.length : Nat) := ⟨by omega, hb⟩
        by_cases c3 : s.getD A.2.2.1[i].toNat 0 < s.getD b.toNat 0
        · simp [c1, c2, c3, gd_pos g, -List.getD_eq_getElem?_getD]
        · simp [c1, c2, c3, gd_pos g, -List.getD_eq_getElem?_getD]
    · simp [c1, -List.getD_eq_getElem?_getD], by
    obtain ⟨q1, q2⟩ := h.acc _ (List.getElem_mem hi)
    unfold bestQ; split <;> omega⟩) (fun b _ => by simp only [tree_Witness_l7, ltEnd, id])
  exact l7.1

theorem witness_law : law07_TreeWitnesses A = some true ∨ ¬ (A.2.2.1.length ≤ 300 ∧ A.2.2.2.1.length ≤ 300 ∧ A.2.2.2.2.1.length ≤ 800) := by
  by_cases hb : A.2.2.1.length ≤ 300 ∧ A.2.2.2.1.length ≤ 300 ∧ A.2.2.2.2.1.length ≤ 800
  · left
    obtain ⟨b1, b2, b3⟩ := hb
    obtain ⟨_, _, t3, t4⟩ := h.top
    have herr : errA A = 0 := by
      have : okAut A = true := by
        simp only [okAut, okTop, Bool.and_eq_true, decide_eq_true_eq, List.all_eq_true, okA, okL, okB, okX]
        exact ⟨⟨⟨h.top, h.acc⟩, fun l hl => ⟨(h.leaf l hl).1, (h.leaf l hl).2⟩⟩, fun b hb => ⟨⟨⟨(h.branch b hb).1, (h.branch b hb).2.1⟩, (h.branch b hb).2.2.1⟩, (h.branch b hb).2.2.2⟩⟩
      simp [errA, this]
    obtain ⟨sr, hcr, er⟩ := fewest_eq hsm h
    obtain ⟨s, lf, fr, hc, hw, eg⟩ := grow_eq hsm h
    -- the two lists of sizes say the same
    have same : ∀ q, 0 ≤ q → q < A.2.1 → (at0 s q = 0 ↔ at0 sr q = 0) ∧ (at0 s q ≠ 0 → at0 sr q = capC 4097 (at0 s q)) := by
      intro q h0 h1
      have z1 : at0 s q ≠ 0 → at0 sr q ≠ 0 ∧ at0 sr q ≤ capC 4097 (at0 s q) := by
        intro hne
        obtain ⟨sh, lb, hg, e⟩ := hc.sound q h0 h1 hne
        obtain ⟨_, h3, h4⟩ := sz_least h (by decide) hcr hg
        refine ⟨h3, ?_⟩
        rw [e]
        unfold capC at h4 ⊢
        repeat' split at h4
        all_goals repeat' split
        all_goals omega
      have z2 : at0 sr q ≠ 0 → at0 s q ≠ 0 ∧ capC 4097 (at0 s q) ≤ at0 sr q := by
        intro hne
        obtain ⟨sh, lb, hg, e⟩ := hcr.sound q h0 h1 hne
        obtain ⟨_, h3, h4⟩ := sz_least h (by decide) hc hg
        refine ⟨h3, ?_⟩
        rw [e]
        unfold capC at h4 ⊢
        repeat' split at h4
        all_goals repeat' split
        all_goals omega
      refine ⟨⟨fun e => ?_, fun e => ?_⟩, fun hne => ?_⟩
      · by_cases c : at0 sr q = 0
        · exact c
        · exact absurd e (z2 c).1
      · by_cases c : at0 s q = 0
        · exact c
        · exact absurd e (z1 c).1
      · have := z1 hne
        have := z2 this.1
        omega
    have hacc : ∀ q ∈ A.2.2.1, 0 ≤ q := fun q hq => (h.acc q hq).1
    obtain ⟨v1, v2, _, v4⟩ := bestV_ok (fun q => (hcr.val q).1) A.2.2.1 0 (Int.le_refl _)
    obtain ⟨w1, w2, _, w4⟩ := bestQ_ok (s := s) A.2.2.1 (-1) hacc (.inl rfl)
    have eb := witness_best hsm h (lf := lf) (fr := fr) hc.len (fun q => (hc.val q).1)
    generalize hn : A.2.2.1.foldl (bestV sr) 0 = n at er v1 v2 v4
    generalize hq : A.2.2.1.foldl (bestQ s) (-1) = best at eb w1 w2 w4
    have hBig : law07_Big A = some false := by
      rw [Big_eq]
      congr 1
      rw [Bool.eq_false_iff]
      simp; omega
    unfold law07_TreeWitnesses
    rw [hBig]
    simp only [Option.bind_some, Bool.false_eq_true, if_false]
    unfold tree_Witness
    rw [tree_Validate_eq hsm, ref07_Validate_eq hsm, herr, er, eg]
    simp only [Option.bind_some, bne_self_eq_false, Bool.false_eq_true, if_false, eb]
    rcases w2 with w2 | ⟨w2, w3⟩
    · -- no tree
      subst w2
      have hn0 : n = 0 := by
        rcases v2 with v2 | ⟨q, hq, hpos, v2⟩
        · exact v2
        · exfalso
          obtain ⟨q1, q2⟩ := h.acc q hq
          have h5 : at0 s q ≠ 0 := fun e => by have := ((same q q1 q2).1.1 e); omega
          have := hc.val q
          have := w4 q hq (by omega)
          omega
      subst hn0
      simp [law07_TreeWitnesses_q10, law07_TreeWitnesses_q13, law07_known]
    · -- a smallest tree
      have hbm : best ∈ A.2.2.1 := by
        rcases w1 with w1 | w1
        · omega
        · exact w1
      obtain ⟨q1, q2⟩ := h.acc best hbm
      have hne : at0 s best ≠ 0 := by omega
      have e1 := (same best q1 q2).2 hne
      have hlen := hc.len
      have g : 0 ≤ best ∧ best < (s.length : Nat) := ⟨q1, by omega⟩
      have hpos : 0 < at0 sr best := by rw [e1]; unfold capC; split <;> omega
      obtain ⟨n1, n2⟩ := v4 best hbm hpos
      -- the least of both
      have hn2 : n = capC 4097 (at0 s best) := by
        rcases v2 with v2 | ⟨q, hqm, hqpos, v2⟩
        · omega
        · obtain ⟨p1, p2⟩ := h.acc q hqm
          have h5 : at0 s q ≠ 0 := fun e => by have := ((same q p1 p2).1.1 e); omega
          have h6 := (same q p1 p2).2 h5
          have h7 := hc.val q
          have h8 := w4 q hqm (by omega)
          have h9 := capC_mono (C := 4097) h8.2
          rw [v2, h6] at n2 ⊢
          rw [e1] at n2
          omega
      have hd : decide (best < 0) = false := by simp; omega
      simp only [hd, Bool.false_eq_true, if_false, gd_pos g]
      by_cases hbig : at0 s best > 4095
      · have h6 : n > 4095 := by rw [hn2]; unfold capC; split <;> omega
        have h7 : s.getD best.toNat 0 > 4095 := hbig
        simp only [h7, h6, decide_true, if_true, Option.bind_some]
        rfl
      · have h6 : ¬ n > 4095 := by rw [hn2]; unfold capC; split <;> omega
        have h7 : ¬ s.getD best.toNat 0 > 4095 := hbig
        obtain ⟨sh, lb, hg, hl, he⟩ := write_top h hc hw q1 q2 hne (by omega)
        have h8 : n = at0 s best := by rw [hn2]; unfold capC; split <;> omega
        have h9 : n > 0 := n1
        simp only [h7, h6, h9, decide_false, decide_true, Bool.false_eq_true, if_false, he, Option.bind_some]
        have h10 : (((sh.length : Nat) : Int) != n) = false := by rw [hl, h8]; exact bne_self_eq_false _
        have h11 := gen_accepts hsm h hg hbm (by omega)
        simp only [bne_self_eq_false, Bool.false_eq_true, if_false, beq_self_eq_true, Bool.not_true, h10, law07_TreeWitnesses_q10, h11, Option.bind_some, if_true]
        rfl
  · exact .inr hb
end

theorem TreeWitnesses_law (A : Aut) : law07_TreeWitnesses A = some true := by
  by_cases hb : A.2.2.1.length ≤ 300 ∧ A.2.2.2.1.length ≤ 300 ∧ A.2.2.2.2.1.length ≤ 800
  · have hsm : small A := ⟨by omega, by omega, by omega⟩
    cases ha : okAut A with
    | true => exact (witness_law hsm (ok_of ha)).resolve_right (fun e => e hb)
    | false =>
      have he : errA A = 1 := by simp [errA, ha]
      have hBig : law07_Big A = some false := by
        rw [Big_eq]
        congr 1
        rw [Bool.eq_false_iff]
        simp; omega
      unfold law07_TreeWitnesses
      rw [hBig]
      simp only [Option.bind_some, Bool.false_eq_true, if_false]
      unfold tree_Witness
      rw [tree_Validate_eq hsm, ref07_Validate_eq hsm, he]
      rfl
  · have hBig : law07_Big A = some true := by
      rw [Big_eq]
      congr 1
      simp; omega
    unfold law07_TreeWitnesses
    rw [hBig]
    rfl
end Go.Lite.Fam
end
