/-
  A part of the proof: L75, L80, L81, L82, L83, L85, FD, FB, FW_law07_known, FW_law07_Big, FW_ref07_within, FW_ref07_Validate, FW_ref03_IsShape, FW_ref07_ValidTree, FW_ref07_leaf, FW_ref07_branch, FW_ref07_meets, FW_ref07_accepts, FW_ref07_Accepts, FW_tree_Validate_2, FW_tree_Validate_1, FW_tree_Validate.
-/
import Derived.ProofKit
import Derived.Test.YtlbignphgpadaaaProg
import Derived.KernelRfl
import Derived.Test.YtlbignphgpadaaaX3
section
/-
  LITE 75: rows that grow by one element.
-/
set_option linter.unusedVariables false
set_option linter.unusedSimpArgs false
namespace Go.Lite
open Go

section
variable {cx : Cx} {H : Heap} {t : TypeId} {e : TypeId} {i : Ty} {k : K} {nid : Nat}

theorem cast_same {k : K} {d : k.D} : K.cast? k k d = some d := by unfold K.cast?; rw [dif_pos rfl]
theorem growFl_none {h : Hint} (hg : h.grow = []) (t : TypeId) : growFl h t = none := by unfold growFl; rw [hg]; rfl

theorem added_one {v : k.D} : added cx H .no k (.lit k [v]) = some ([v], H) := by
  have hcs : K.cast? (.slice k) (.slice k) ([v] : List k.D) = some ([v] : List k.D) := cast_same
  simp only [added, content, hcs]
  cases k.flatRows <;> rfl
theorem append_nil {h : Hint} (hg : h.grow = []) (he : elemKind cx t = some (e, i, k)) (hb : i.bytes ≤ 1073741824) {u : TypeId} {v : k.D} : append cx h H t (.nilS u) (.lit k [v]) nid = some (.sl nid 0 [] 0 1, upd nid (some (.arr .no k [v] 0 none)) H) := by
  have hc : (decide ((([] : List k.D).length + [v].length) * i.bytes ≤ LIM) && decide (([] : List k.D).length + [v].length ≤ LIM)) = true := by
    simp [LIM]; exact hb
  simp only [append, he, growFl_none hg, Option.getD, added_one, appPut, hc, chk]
  rfl
theorem append_sl {h : Hint} (he : elemKind cx t = some (e, i, k)) {r : Nat} {xs : List k.D} {n : Nat} (hH : H r = some (.arr .no k xs 0 none)) (hn : n ≤ xs.length) (hb : (xs.length + 1) * i.bytes ≤ 1073741824) (hb1 : xs.length + 1 ≤ 1073741824) {v : k.D} :
    append cx h H t (.sl r 0 [] 0 (n : Nat)) (.lit k [v]) nid = some (.sl nid 0 [] 0 ((n + 1 : Nat) : Int), upd r none (upd nid (some (.arr .no k (xs.take n ++ [v]) 0 none)) H)) := by
  have hl : ((xs.drop (0 : Int).toNat).take ((n : Nat) : Int).toNat) = xs.take n := by simp
  have hlen : (xs.take n).length = n := by simp [hn]
  have hcx : K.cast? (.slice k) (.slice k) xs = some xs := cast_same
  have hm : (n + 1) * i.bytes ≤ (xs.length + 1) * i.bytes := Nat.mul_le_mul_right _ (by omega)
  have hc : (decide ((n + (0 + 1)) * i.bytes ≤ LIM) && decide (n + (0 + 1) ≤ LIM)) = true := by
    simp [LIM]; omega
  simp only [append, he, hH, view, List.isEmpty, Bool.true_or, Fl.path, getP, hcx, added_one, hl, appPut, left, List.length_append, hlen, List.length_cons, List.length_nil, hc, chk]
end
end Go.Lite
end

section
/-
  LITE 80: one operation at a time, by shape.
-/
set_option linter.unusedVariables false
set_option linter.unusedSimpArgs false
namespace Go.Lite
open Go

/-- A guard: where it doesn't hold there is no answer. -/
def gd {α : Type} (p : Prop) [Decidable p] (x : Option α) : Option α := if p then x else none
theorem gd_some {α : Type} {p : Prop} [Decidable p] {x : Option α} {r : α} (h : gd p x = some r) : p ∧ x = some r := by
  unfold gd at h
  split at h
  · rename_i hp; exact ⟨hp, h⟩
  · cases h
theorem gd_pos {α : Type} {p : Prop} [Decidable p] {x : Option α} (h : p) : gd p x = x := if_pos h

section
variable {cx : Cx} {h : Hint} {F : CallF} {nt : Nat} {ops : Array Oper} {l : List Oper} {P : St → Prop} {sl : Slots} {H : Heap} {nx nid : Nat} {ty t u : TypeId} {pos : String} {af : Array Edge} {d : Option Nat} {g : Option (Nat × Bool)} {x y z : Operand} {k : K}

def dOk (nt : Nat) : Option Nat → Bool
  | some d => decide (d < nt)
  | none => true
/-- The operation is done. -/
theorem W {op : Op} {v : AV} {H' : Heap} (he : evalOp cx h F ⟨d, op, ty, pos, af, none⟩ ⟨sl, H, nx⟩ nx = some ⟨v, H'⟩) (hd : dOk nt d = true) (hq : WO cx h F nt ops l P ⟨putD d v sl, H', nx + 8⟩) :
    WO cx h F nt ops (⟨d, op, ty, pos, af, none⟩ :: l) P ⟨sl, H, nx⟩ := by
  obtain ⟨s1, h1, h2⟩ := hq
  refine ⟨s1, ?_, h2⟩
  cases d with
  | none => simp only [evalOps, asked, he]; exact h1
  | some d =>
    have hd : decide (d < nt) = true := hd
    simp only [evalOps, hd, asked, he]; exact h1
/-- It is asked for, and done. -/
theorem Wy {op : Op} {v : AV} {H' : Heap} {j : Nat} {want b : Bool} {q : Nat} (hj : (ops[j]?).bind (·.dst) = some q) (hs : sl q = .data .bool b) (hb : b = want) (he : evalOp cx h F ⟨d, op, ty, pos, af, some (j, want)⟩ ⟨sl, H, nx⟩ nx = some ⟨v, H'⟩) (hd : dOk nt d = true) (hq : WO cx h F nt ops l P ⟨putD d v sl, H', nx + 8⟩) :
    WO cx h F nt ops (⟨d, op, ty, pos, af, some (j, want)⟩ :: l) P ⟨sl, H, nx⟩ := by
  obtain ⟨s1, h1, h2⟩ := hq
  subst hb
  refine ⟨s1, ?_, h2⟩
  have hb : (b == b) = true := by cases b <;> rfl
  have ha : asked ops sl ⟨d, op, ty, pos, af, some (j, b)⟩ = some (some true) := by simp only [asked, hj, hs, hb]
  cases d with
  | none => simp only [evalOps, ha, ite', he]; exact h1
  | some d =>
    have hd : decide (d < nt) = true := hd
    simp only [evalOps, hd, ha, ite', he]; exact h1
/-- It is not asked for. -/
theorem Wn {op : Op} {j : Nat} {want b : Bool} {q : Nat} (hj : (ops[j]?).bind (·.dst) = some q) (hs : sl q = .data .bool b) (hb : b = !want) (hd : dOk nt d = true) (hq : WO cx h F nt ops l P ⟨putD d .skip sl, H, nx + 8⟩) :
    WO cx h F nt ops (⟨d, op, ty, pos, af, some (j, want)⟩ :: l) P ⟨sl, H, nx⟩ := by
  obtain ⟨s1, h1, h2⟩ := hq
  subst hb
  refine ⟨s1, ?_, h2⟩
  have ha : asked ops sl ⟨d, op, ty, pos, af, some (j, want)⟩ = some (some false) := by
    simp only [asked, hj, hs]; cases want <;> rfl
  cases d with
  | none => simp only [evalOps, ha, ite']; exact h1
  | some d =>
    have hd : decide (d < nt) = true := hd
    simp only [evalOps, hd, ha, ite']; exact h1
theorem Ws {op : Op} {j : Nat} {want : Bool} {q : Nat} (hj : (ops[j]?).bind (·.dst) = some q) (hs : sl q = .skip) (hd : dOk nt d = true) (hq : WO cx h F nt ops l P ⟨putD d .skip sl, H, nx + 8⟩) :
    WO cx h F nt ops (⟨d, op, ty, pos, af, some (j, want)⟩ :: l) P ⟨sl, H, nx⟩ := by
  obtain ⟨s1, h1, h2⟩ := hq
  refine ⟨s1, ?_, h2⟩
  have ha : asked ops sl ⟨d, op, ty, pos, af, some (j, want)⟩ = some (some false) := by
    simp only [asked, hj, hs]
  cases d with
  | none => simp only [evalOps, ha, ite']; exact h1
  | some d =>
    have hd : decide (d < nt) = true := hd
    simp only [evalOps, hd, ha, ite']; exact h1

/-! ### Answers of operations -/
def nil0 : AV → Bool
  | .nilS 0 => true
  | _ => false
theorem eMove {v : AV} (hx : operand cx sl x = some v) (hv : nil0 v = false) : evalOp cx h F ⟨d, .move x, ty, pos, af, g⟩ ⟨sl, H, nx⟩ nid = some ⟨v, H⟩ := by
  unfold evalOp
  simp only [hx]
  split
  · rename_i h0; injection h0 with h0; subst h0; cases hv
  · rename_i h0; injection h0 with h0; subst h0; rfl
  · rename_i h0; cases h0
theorem eAsg {v : AV} (hx : operand cx sl x = some v) (hv : nil0 v = false) : evalOp cx h F ⟨d, .assign x, ty, pos, af, g⟩ ⟨sl, H, nx⟩ nid = some ⟨v, H⟩ := eMove (h := h) (F := F) (d := d) (pos := pos) (af := af) (g := g) (nx := nx) (nid := nid) hx hv
theorem isSl {i : Ty} {e : TypeId} (ht : cx.ty t = some i) (hi : i.td = .slice e) : (match (cx.ty t).map Ty.td with | some (.slice _) => true | _ => false) = true := by rw [ht]; simp [hi]
theorem eNil {i : Ty} {e : TypeId} {v : AV} {H' : Heap} (hx : operand cx sl x = some (.nilS 0)) (ht : cx.ty ty = some i) (hi : i.td = .slice e) (hv : nilOf cx h H ty nid = some (v, H')) : evalOp cx h F ⟨d, .move x, ty, pos, af, g⟩ ⟨sl, H, nx⟩ nid = some ⟨v, H'⟩ := by
  unfold evalOp
  simp only [hx, ht, Option.map_some, hi, hv]
theorem eNilA {i : Ty} {e : TypeId} {v : AV} {H' : Heap} (hx : operand cx sl x = some (.nilS 0)) (ht : cx.ty ty = some i) (hi : i.td = .slice e) (hv : nilOf cx h H ty nid = some (v, H')) : evalOp cx h F ⟨d, .assign x, ty, pos, af, g⟩ ⟨sl, H, nx⟩ nid = some ⟨v, H'⟩ := by
  unfold evalOp
  simp only [hx, ht, Option.map_some, hi, hv]
theorem nilPlain (hg : growFl h t = none) : nilOf cx h H t nid = some (.nilS t, H) := by unfold nilOf; rw [hg]
theorem nilGrow {fl : Fl} {e : TypeId} {i : Ty} (hg : growFl h t = some fl) (he : elemKind cx t = some (e, i, k)) : nilOf cx h H t nid = some (.sl nid 0 [] 0 0, upd nid (some (.arr fl k [] 0 none)) H) := by unfold nilOf; rw [hg, he]
theorem elemOf {i j : Ty} {e : TypeId} (ht : cx.ty t = some i) (hi : i.td = .slice e) (he : cx.ty e = some j) (hk : j.kind = some k) : elemKind cx t = some (e, j, k) := by
  unfold elemKind
  rw [ht]
  obtain ⟨td, a, b, c⟩ := i
  simp only at hi
  subst hi
  simp only [he, hk]

theorem ePickT {b : Bool} {v : AV} (hc : operand cx sl x = some (.data .bool b)) (hb : b = true) (hv : operand cx sl y = some v) : evalOp cx h F ⟨d, .pick x y z, ty, pos, af, g⟩ ⟨sl, H, nx⟩ nid = some ⟨v, H⟩ := by
  subst hb
  unfold evalOp
  simp only [hc, hv, ite']
theorem ePickF {b : Bool} {v : AV} (hc : operand cx sl x = some (.data .bool b)) (hb : b = false) (hv : operand cx sl z = some v) : evalOp cx h F ⟨d, .pick x y z, ty, pos, af, g⟩ ⟨sl, H, nx⟩ nid = some ⟨v, H⟩ := by
  subst hb
  unfold evalOp
  simp only [hc, hv, ite']
theorem eUn {op : UnOp} {a v : AV} (hx : operand cx sl x = some a) (hv : unOp op a = some v) : evalOp cx h F ⟨d, .unOp op t x, ty, pos, af, g⟩ ⟨sl, H, nx⟩ nid = some ⟨v, H⟩ := by
  unfold evalOp
  simp only [hx, hv]
theorem eBin {op : BinOp} {a b v : AV} (hx : operand cx sl x = some a) (hy : operand cx sl y = some b) (hv : Lite.binOp cx op t a b = some v) : evalOp cx h F ⟨d, .binOp op t x y u, ty, pos, af, g⟩ ⟨sl, H, nx⟩ nid = some ⟨v, H⟩ := by
  unfold evalOp
  simp only [hx, hy, hv]
theorem bQuo {k : IntKind} {a b : Int} (hb : b ≠ 0) : Lite.binOp cx .quo t (.data (.int k) a) (.data (.int k) b) = some (.data (.int k) (k.wrap (a.tdiv b))) := by
  have : (!(b == 0)) = true := by simpa using hb
  simp only [Lite.binOp, decide_true, intBin, this, chk, intV]
theorem bRem {k : IntKind} {a b : Int} (hb : b ≠ 0) : Lite.binOp cx .rem t (.data (.int k) a) (.data (.int k) b) = some (.data (.int k) (a.tmod b)) := by
  have : (!(b == 0)) = true := by simpa using hb
  simp only [Lite.binOp, decide_true, intBin, this, chk, intV]
theorem bShl {k k' : IntKind} {a b : Int} (hb : 0 ≤ b) : Lite.binOp cx .shl t (.data (.int k) a) (.data (.int k') b) = some (.data (.int k) (k.wrap (a * 2 ^ min b.toNat k.bits))) := by
  simp only [Lite.binOp, shiftInt, hb, decide_true, chk, intV]
theorem bShr {k k' : IntKind} {a b : Int} (hb : 0 ≤ b) : Lite.binOp cx .shr t (.data (.int k) a) (.data (.int k') b) = some (.data (.int k) (a.fdiv (2 ^ min b.toNat k.bits))) := by
  simp only [Lite.binOp, shiftInt, hb, decide_true, chk, intV]
theorem bCat {a b : ByteArray} (hb : a.size + b.size ≤ 1073741824) : Lite.binOp cx .add t (.data .str a) (.data .str b) = some (.data .str (a ++ b)) := by
  simp only [Lite.binOp, strBin, hb, decide_true, chk]
theorem bEqB {a b : Bool} (hk : kindAt cx t = some .bool) : Lite.binOp cx .eql t (.data .bool a) (.data .bool b) = some (.data .bool (a == b)) := by
  have hc : K.cast? K.bool K.bool b = some b := cast_same (k := .bool)
  simp only [Lite.binOp, eqKind, hk, hc, beq_self_eq_true, K.beq, boolV]
theorem bNeB {a b : Bool} (hk : kindAt cx t = some .bool) : Lite.binOp cx .neq t (.data .bool a) (.data .bool b) = some (.data .bool (!(a == b))) := by
  have hc : K.cast? K.bool K.bool b = some b := cast_same (k := .bool)
  simp only [Lite.binOp, eqKind, hk, hc, beq_self_eq_true, K.beq, boolV]
theorem kindOfTy {i : Ty} (ht : cx.ty t = some i) (hk : i.kind = some k) : kindAt cx t = some k := by unfold kindAt; rw [ht]; exact hk
theorem tdOfTy {i : Ty} {td : TD} (ht : cx.ty t = some i) (hk : i.td = td) : tdAt cx t = some td := by unfold tdAt; rw [ht, ← hk]; rfl
theorem eConvI {k1 k2 : IntKind} {k0 : IntKind} {n : Int} {i j : Ty} (hx : operand cx sl x = some (.data (.int k0) n)) (hi : cx.ty t = some i) (hi' : i.td = .int k1) (hj : cx.ty u = some j) (hj' : j.td = .int k2) : evalOp cx h F ⟨d, .convert t u x, ty, pos, af, g⟩ ⟨sl, H, nx⟩ nid = some ⟨.data (.int k2) (k2.wrap n), H⟩ := by
  unfold evalOp
  simp only [hx, Lite.convert, hi, hj, Option.map_some, hi', hj', intV]
theorem eConvS {s : ByteArray} {i j : Ty} (hx : operand cx sl x = some (.data .str s)) (hi : cx.ty t = some i) (hi' : i.td = .string) (hj : cx.ty u = some j) (hj' : j.td = .string) : evalOp cx h F ⟨d, .convert t u x, ty, pos, af, g⟩ ⟨sl, H, nx⟩ nid = some ⟨.data .str s, H⟩ := by
  unfold evalOp
  simp only [hx, Lite.convert, hi, hj, Option.map_some, hi', hj']
theorem eConvB {a : AV} {b : List Int} {i j : Ty} {e : TypeId} (hx : operand cx sl x = some a) (hi : cx.ty t = some i) (hi' : i.td = .slice e) (hj : cx.ty u = some j) (hj' : j.td = .string) (hk : kindAt cx e = some (.int .u8)) (hc : content cx H a = some ⟨.int .u8, b⟩) : evalOp cx h F ⟨d, .convert t u x, ty, pos, af, g⟩ ⟨sl, H, nx⟩ nid = some ⟨.data .str (strOf b), H⟩ := by
  have hk' : (kindAt cx e == some (.int .u8)) = true := by rw [hk]; exact beq_self_eq_true _
  unfold evalOp
  simp only [hx, Lite.convert, hi, hj, Option.map_some, hi', hj', hc, hk']
theorem eExt {n : Nat} {vs : List AV} {v : AV} (hx : operand cx sl x = some (.tuple vs)) (hv : get? vs n = some v) : evalOp cx h F ⟨d, .extract x n, ty, pos, af, g⟩ ⟨sl, H, nx⟩ nid = some ⟨v, H⟩ := by
  unfold evalOp
  simp only [hx, hv]
def sure : AV → Bool
  | .ptr .. | .at .. | .el .. | .fn .. | .iface .. => true
  | _ => false
theorem eNck {v : AV} (hx : operand cx sl x = some v) (hv : sure v = true) : evalOp cx h F ⟨d, .nilCheck x, ty, pos, af, g⟩ ⟨sl, H, nx⟩ nid = some ⟨v, H⟩ := by
  unfold evalOp
  cases v <;> first | (cases hv; done) | simp only [hx]

/-! ### Addresses, fields -/
theorem fieldAt {i j : Ty} {fs : List (Nat × TypeId)} {f o : Nat} {e : TypeId} {m : Nat} (ht : cx.ty t = some i) (hi : i.td = .struct fs) (hf : get? fs f = some (o, e)) (he : cx.ty e = some j) (hj : j.size = m + 1) : fieldOf cx t f = some (o, j) := by
  unfold fieldOf
  rw [ht]
  simp only [Option.map_some, hi, hf, he, hj]
theorem eFaP {f r off o : Nat} {j : Ty} (hx : operand cx sl x = some (.ptr r off)) (hf : fieldOf cx t f = some (o, j)) : evalOp cx h F ⟨d, .fieldAddr t x f, ty, pos, af, g⟩ ⟨sl, H, nx⟩ nid = some ⟨.ptr r (off + o), H⟩ := by
  unfold evalOp
  simp only [hx, Lite.fieldAddr, hf]
theorem eFaA {f o o' : Nat} {j : Ty} {dd : k.D} {c : Comp} {k' : K} (hx : operand cx sl x = some (.at k dd)) (hf : fieldOf cx t f = some (o, j)) (hc : k.comp1 dd f = some c) (ho : k.off1 f = some (o', k')) (hoo : (o == o') = true) : evalOp cx h F ⟨d, .fieldAddr t x f, ty, pos, af, g⟩ ⟨sl, H, nx⟩ nid = some ⟨.at c.k c.d, H⟩ := by
  unfold evalOp
  simp only [hx, Lite.fieldAddr, hf, hc, ho, hoo]
theorem eFaE {f o o' q r ver : Nat} {j : Ty} {p : List Step} {i : Int} {fs : List Nat} {k0 k1 k2 : K} (hx : operand cx sl x = some (.el r ver p i fs)) (hf : fieldOf cx t f = some (o, j)) (hr : rowKind H r p = some k0) (ho : offs fs k0 = some (q, k1)) (ho1 : k1.off1 f = some (o', k2)) (hoo : (o == o') = true) : evalOp cx h F ⟨d, .fieldAddr t x f, ty, pos, af, g⟩ ⟨sl, H, nx⟩ nid = some ⟨.el r ver p i (fs ++ [f]), H⟩ := by
  unfold evalOp
  simp only [hx, Lite.fieldAddr, hf, hr, ho, ho1, hoo]
theorem eFd {f : Nat} {dd : k.D} {c : Comp} (hx : operand cx sl x = some (.data k dd)) (hk : kindAt cx t = some k) (hc : k.comp1 dd f = some c) : evalOp cx h F ⟨d, .field t x f, ty, pos, af, g⟩ ⟨sl, H, nx⟩ nid = some ⟨.data c.k c.d, H⟩ := by
  have hk' : ((cx.ty t).bind Ty.kind == some k) = true := by unfold kindAt at hk; rw [hk]; exact beq_self_eq_true _
  unfold evalOp
  simp only [hx, Lite.field, hk', hc]
theorem eFg {f o : Nat} {i j : Ty} {fs : List (Nat × TypeId)} {e : TypeId} {vs : List AV} {v : AV} (hx : operand cx sl x = some (.agg vs)) (ht : cx.ty t = some i) (hi : i.td = .struct fs) (hf : get? fs f = some (o, e)) (he : cx.ty e = some j) (hv : assemble j ((vs.drop o).take j.size) = some v) : evalOp cx h F ⟨d, .field t x f, ty, pos, af, g⟩ ⟨sl, H, nx⟩ nid = some ⟨v, H⟩ := by
  unfold evalOp
  simp only [hx, Lite.field, ht, Option.map_some, hi, hf, he, hv]

/-! ### Reading, writing -/
theorem eLdA {dd : k.D} (ha : operand cx sl x = some (.at k dd)) (hk : kindAt cx t = some k) : evalOp cx h F ⟨d, .load t x, ty, pos, af, g⟩ ⟨sl, H, nx⟩ nid = some ⟨.data k dd, H⟩ := by
  have hk' : (kindAt cx t == some k) = true := by rw [hk]; exact beq_self_eq_true _
  unfold evalOp
  simp only [ha, Lite.load, hk']
theorem eLdP {r off : Nat} {cells : List AV} {i : Ty} {v : AV} (ha : operand cx sl x = some (.ptr r off)) (hr : H r = some (.box cells)) (ht : cx.ty t = some i) (hl : decide (off + i.size ≤ cells.length) = true) (hv : assemble i ((cells.drop off).take i.size) = some v) : evalOp cx h F ⟨d, .load t x, ty, pos, af, g⟩ ⟨sl, H, nx⟩ nid = some ⟨v, H⟩ := by
  unfold evalOp
  simp only [ha, Lite.load, hr, ht, hl, hv]
theorem eLdE {r ver : Nat} {p : List Step} {i : Int} {fs : List Nat} {vw : View} {c : Comp} {v : AV} (ha : operand cx sl x = some (.el r ver p i fs)) (hv : view H r ver p = some vw) (hc : K.comp fs vw.row.k (vw.row.xs.getD i.toNat vw.row.k.zero) = some c) (hk : kindAt cx t = some c.k) (ho : openEl r (verOf H r ver) p i fs (Fl.comp fs vw.fl) c.k c.d = some v) : evalOp cx h F ⟨d, .load t x, ty, pos, af, g⟩ ⟨sl, H, nx⟩ nid = some ⟨v, H⟩ := by
  have hk' : (kindAt cx t == some c.k) = true := by rw [hk]; exact beq_self_eq_true _
  unfold evalOp
  simp only [ha, Lite.load, hv, hc, hk', ho]
theorem storeAV {a v : AV} {H' : Heap} (ha : operand cx sl x = some a) (hy : operand cx sl y = some v) (hv : nil0 v = false) (hs : Lite.store cx H t a v = some H') : evalOp cx h F ⟨d, .store t x y, ty, pos, af, g⟩ ⟨sl, H, nx⟩ nid = some ⟨.skip, H'⟩ := by
  unfold evalOp
  simp only [ha, hy]
  split
  · rename_i h1; injection h1 with h1; subst h1; cases hv
  · rename_i h0 h1; injection h0 with h0; injection h1 with h1; subst h0 h1; simp only [hs]
  · rename_i h0 h1; first | exact (h1 a v rfl rfl).elim | exact (h0 a v rfl rfl).elim
theorem eStP {r off : Nat} {cells cs : List AV} {i : Ty} {v : AV} (ha : operand cx sl x = some (.ptr r off)) (hy : operand cx sl y = some v) (hv : nil0 v = false) (hr : H r = some (.box cells)) (ht : cx.ty t = some i) (hc : cellsOf v = some cs) (hl : (cs.length == i.size && decide (off + i.size ≤ cells.length)) = true) : evalOp cx h F ⟨d, .store t x y, ty, pos, af, g⟩ ⟨sl, H, nx⟩ nid = some ⟨.skip, upd r (some (.box (setCells cells off cs))) H⟩ :=
  storeAV ha hy hv (by simp only [Lite.store, hr, ht, hc, hl])
theorem eStN {r off : Nat} {cells cs : List AV} {i : Ty} {v : AV} {H' : Heap} (ha : operand cx sl x = some (.ptr r off)) (hy : operand cx sl y = some (.nilS 0)) (hn : nilOf cx h H t nid = some (v, H')) (hr : H' r = some (.box cells)) (ht : cx.ty t = some i) (hc : cellsOf v = some cs) (hl : (cs.length == i.size && decide (off + i.size ≤ cells.length)) = true) : evalOp cx h F ⟨d, .store t x y, ty, pos, af, g⟩ ⟨sl, H, nx⟩ nid = some ⟨.skip, upd r (some (.box (setCells cells off cs))) H'⟩ := by
  unfold evalOp
  simp only [ha, hy, hn, Lite.store, hr, ht, hc, hl]
/-- An element (or a field of one) of a row of our own, in no other row. -/
theorem eStE {r ver : Nat} {i : Int} {fs : List Nat} {fl : Fl} {xs : List k.D} {hole : Option (List Step)} {v : AV} {c : Comp} {dd : c.k.D} {H1 : Heap} {yv : k.D} {fl1 : Fl} {k1 : K} {xs1 : List k1.D} {v1 : Nat} {h1 : Option (List Step)}
    (ha : operand cx sl x = some (.el r ver [] i fs)) (hy : operand cx sl y = some v) (hv : nil0 v = false) (hr : H r = some (.arr fl k xs ver hole)) (hc : K.comp fs k (xs.getD i.toNat k.zero) = some c) (hk : kindAt cx t = some c.k) (hh : holeOk hole [⟨i, fs⟩] = true)
    (hab : absorb cx H (Fl.comp fs fl) c.k v = some (dd, H1)) (hs : K.set fs k (xs.getD i.toNat k.zero) ⟨c.k, dd⟩ = some yv) (hr1 : H1 r = some (.arr fl1 k1 xs1 v1 h1)) :
    evalOp cx h F ⟨d, .store t x y, ty, pos, af, g⟩ ⟨sl, H, nx⟩ nid = some ⟨.skip, upd r (some (.arr fl k (xs.set i.toNat yv) (verNext hole c.k ver) none)) H1⟩ := by
  have hk' : (kindAt cx t == some c.k) = true := by rw [hk]; exact beq_self_eq_true _
  have hcs : K.cast? (.slice k) (.slice k) (xs.set i.toNat yv : List k.D) = some (xs.set i.toNat yv : List k.D) := cast_same
  refine storeAV ha hy hv ?_
  simp only [Lite.store, hr, beq_self_eq_true, storeEl, Fl.path, getP, hc, hk', List.nil_append, hh, Bool.and_true, hab, hs, setP, hcs, hr1]
end
end Go.Lite
end

section
/-
  LITE 81: more operations by shape.
-/
set_option linter.unusedVariables false
set_option linter.unusedSimpArgs false
namespace Go.Lite
open Go

section
variable {cx : Cx} {h : Hint} {F : CallF} {nt : Nat} {ops : Array Oper} {l : List Oper} {P : St → Prop} {sl : Slots} {H : Heap} {nx nid : Nat} {ty t u : TypeId} {pos : String} {af : Array Edge} {d : Option Nat} {g : Option (Nat × Bool)} {x y z : Operand} {k : K}

/-! ### New variables, literals -/
theorem eBld {ps : Array (Nat × Operand)} {vs : List (Nat × AV)} {v : AV} (hp : mapAll (fun p => (operand cx sl p.2).map (p.1, ·)) ps.toList = some vs) (hv : Lite.build cx t vs = some v) : evalOp cx h F ⟨d, .build t ps, ty, pos, af, g⟩ ⟨sl, H, nx⟩ nid = some ⟨v, H⟩ := by
  unfold evalOp
  simp only [hp, hv]
theorem buildS {i : Ty} {z : List AV} {fs : List (Nat × TypeId)} {pl : List (Nat × Nat)} {vs : List (Nat × AV)} {cs : List AV} {v : AV} (ht : cx.ty t = some i) (hz : cx.zero t = some z) (hi : i.td = .struct fs) (hp : placesOf cx fs = some pl) (hf : fillParts (get? pl) z vs = some cs) (hv : assemble i cs = some v) : Lite.build cx t vs = some v := by
  unfold Lite.build
  simp only [ht, hz, hi, hp, hf, hv]
theorem buildA {i j : Ty} {z : List AV} {n : Nat} {e : TypeId} {vs : List (Nat × AV)} {cs : List AV} {v : AV} (ht : cx.ty t = some i) (hz : cx.zero t = some z) (hi : i.td = .array n e) (he : cx.ty e = some j) (hf : fillParts (fun n => some (n * j.size, j.size)) z vs = some cs) (hv : assemble i cs = some v) : Lite.build cx t vs = some v := by
  unfold Lite.build
  simp only [ht, hz, hi, he, hf, hv]
theorem placesN : placesOf cx [] = some [] := rfl
theorem placesC {o : Nat} {e : TypeId} {j : Ty} {l : List (Nat × TypeId)} {r : List (Nat × Nat)} (he : cx.ty e = some j) (hr : placesOf cx l = some r) : placesOf cx ((o, e) :: l) = some ((o, j.size) :: r) := by
  simp only [placesOf, he, hr]
theorem eBox {v : AV} {cs : List AV} (hx : operand cx sl x = some v) (hc : cellsOf v = some cs) : evalOp cx h F ⟨d, .box t x, ty, pos, af, g⟩ ⟨sl, H, nx⟩ nid = some ⟨.ptr nid 0, upd nid (some (.box cs)) H⟩ := by
  unfold evalOp
  simp only [hx, hc]
theorem eAlloc {z : List AV} (hz : cx.zero t = some z) : evalOp cx h F ⟨d, .alloc t, ty, pos, af, g⟩ ⟨sl, H, nx⟩ nid = some ⟨.ptr nid 0, upd nid (some (.box z)) H⟩ := by
  unfold evalOp
  simp only [hz]
theorem eLit {n : Nat} {ps : Array (Nat × Operand)} {vs : List (Nat × AV)} {e : TypeId} {i : Ty} {ds : List k.D} {H1 : Heap} (hp : mapAll (fun p => (operand cx sl p.2).map (p.1, ·)) ps.toList = some vs) (he : elemKind cx t = some (e, i, k)) (hc : (vs.length == n && (vs.zipIdx.all fun p => p.1.1 == p.2) && decide (n * i.size ≤ 65536) && decide (0 < i.size)) = true) (hg : growFl h t = none) (ha : absorbAll cx .no k H (vs.map (·.2)) = some (ds, H1)) :
    evalOp cx h F ⟨d, .buildSlice t n ps, ty, pos, af, g⟩ ⟨sl, H, nx⟩ nid = some ⟨.lit k ds, H1⟩ := by
  unfold evalOp
  simp only [hp, he, hc, hg, ha]
theorem eLitG {n : Nat} {ps : Array (Nat × Operand)} {vs : List (Nat × AV)} {e : TypeId} {i : Ty} {fl : Fl} {ds : List k.D} {H1 : Heap} (hp : mapAll (fun p => (operand cx sl p.2).map (p.1, ·)) ps.toList = some vs) (he : elemKind cx t = some (e, i, k)) (hc : (vs.length == n && (vs.zipIdx.all fun p => p.1.1 == p.2) && decide (n * i.size ≤ 65536) && decide (0 < i.size)) = true) (hg : growFl h t = some fl) (ha : absorbAll cx fl k H (vs.map (·.2)) = some (ds, H1)) :
    evalOp cx h F ⟨d, .buildSlice t n ps, ty, pos, af, g⟩ ⟨sl, H, nx⟩ nid = some ⟨.sl nid 0 [] 0 (ds.length : Nat), upd nid (some (.arr fl k ds 0 none)) H1⟩ := by
  unfold evalOp
  simp only [hp, he, hc, hg, ha]
theorem absN : absorbAll cx .no k H [] = some ([], H) := rfl
theorem absC {v : AV} {dd : k.D} {H1 H2 : Heap} {vs : List AV} {ds : List k.D} {fl : Fl} (hv : absorb cx H fl k v = some (dd, H1)) (hr : absorbAll cx fl k H1 vs = some (ds, H2)) : absorbAll cx fl k H (v :: vs) = some (dd :: ds, H2) := by
  simp only [absorbAll, hv, hr]
theorem absD {dd : k.D} : absorb cx H .no k (.data k dd) = some (dd, H) := by
  unfold absorb
  have h1 : asData cx H k (.data k dd) = some dd := asData_data
  simp only [h1, AV.ids, freeze]
  cases k.flatRows <;> rfl

/-! ### Elements -/
theorem inR {i n : Int} (hi : 0 ≤ i ∧ i < n) : (decide (0 ≤ i) && decide (i < n)) = true := by simp [hi]
theorem eIxD {i : Int} {ik : IntKind} {ds : List k.D} (hx : operand cx sl x = some (.data (.slice k) ds)) (hy : operand cx sl y = some (.data (.int ik) i)) (hk : kindAt cx t = some (.slice k)) (hi : 0 ≤ i ∧ i < (ds.length : Nat)) : evalOp cx h F ⟨d, .indexAddr t x y, ty, pos, af, g⟩ ⟨sl, H, nx⟩ nid = some ⟨.at k (ds.getD i.toNat k.zero), H⟩ := by
  unfold evalOp
  simp only [hx, hy, Lite.indexAddr, Lite.asInt, hk, beq_self_eq_true, hi.1, decide_true, Bool.true_and]
  have h2 : decide (i < ((ds.length : Nat) : Int)) = true := decide_eq_true hi.2
  have h3 : decide (i < ((List.length (α := k.D) ds : Nat) : Int)) = true := h2
  rw [show (chk (decide (i < ((List.length (α := k.D) ds : Nat) : Int))) fun _ => some (AV.at k (ds.getD i.toNat k.zero))) = some (AV.at k (ds.getD i.toNat k.zero)) by rw [h3]; rfl]
theorem eIxL {i : Int} {ik : IntKind} {ds : List k.D} (hx : operand cx sl x = some (.lit k ds)) (hy : operand cx sl y = some (.data (.int ik) i)) (hk : kindAt cx t = some (.slice k)) (hi : 0 ≤ i ∧ i < (ds.length : Nat)) : evalOp cx h F ⟨d, .indexAddr t x y, ty, pos, af, g⟩ ⟨sl, H, nx⟩ nid = some ⟨.at k (ds.getD i.toNat k.zero), H⟩ := by
  unfold evalOp
  simp only [hx, hy, Lite.indexAddr, Lite.asInt, hk, beq_self_eq_true, hi.1, hi.2, decide_true, Bool.true_and, chk]
theorem eIxR {i : Int} {ik : IntKind} {n : Nat} {ds : List k.D} (hx : operand cx sl x = some (.at (.array n k) ds)) (hy : operand cx sl y = some (.data (.int ik) i)) (hk : kindAt cx t = some (.array n k)) (hi : 0 ≤ i ∧ i < (n : Nat)) (hn : decide (2 ≤ n) = true) : evalOp cx h F ⟨d, .indexAddr t x y, ty, pos, af, g⟩ ⟨sl, H, nx⟩ nid = some ⟨.at k (ds.getD i.toNat k.zero), H⟩ := by
  unfold evalOp
  simp only [hx, hy, Lite.indexAddr, Lite.asInt, hk, beq_self_eq_true, hi.1, hi.2, hn, decide_true, Bool.true_and, chk]
/-- An element of a row of our own that starts at its first. -/
theorem eIxS {i n : Int} {ik : IntKind} {r ver : Nat} {fl : Fl} {xs : List k.D} {hole : Option (List Step)} (hx : operand cx sl x = some (.sl r ver [] 0 n)) (hy : operand cx sl y = some (.data (.int ik) i)) (hr : H r = some (.arr fl k xs ver hole)) (hk : kindAt cx t = some (.slice k)) (hi : 0 ≤ i ∧ i < n) : evalOp cx h F ⟨d, .indexAddr t x y, ty, pos, af, g⟩ ⟨sl, H, nx⟩ nid = some ⟨.el r ver [] i [], H⟩ := by
  unfold evalOp
  simp only [hx, hy, Lite.indexAddr, Lite.asInt, hr, List.isEmpty, Bool.true_or, rowKind, pathKind, hk, beq_self_eq_true, hi.1, hi.2, decide_true, Bool.true_and, chk, Int.zero_add]
theorem eIxSo {i n off : Int} {ik : IntKind} {r ver : Nat} {fl : Fl} {xs : List k.D} {hole : Option (List Step)} (hx : operand cx sl x = some (.sl r ver [] off n)) (hy : operand cx sl y = some (.data (.int ik) i)) (hr : H r = some (.arr fl k xs ver hole)) (hk : kindAt cx t = some (.slice k)) (hi : 0 ≤ i ∧ i < n) : evalOp cx h F ⟨d, .indexAddr t x y, ty, pos, af, g⟩ ⟨sl, H, nx⟩ nid = some ⟨.el r ver [] (off + i) [], H⟩ := by
  unfold evalOp
  simp only [hx, hy, Lite.indexAddr, Lite.asInt, hr, List.isEmpty, Bool.true_or, rowKind, pathKind, hk, beq_self_eq_true, hi.1, hi.2, decide_true, Bool.true_and, chk]
/-- An element of a row in a row. -/
theorem eIxSp {i n : Int} {ik : IntKind} {r ver : Nat} {p : List Step} {fl : Fl} {k0 : K} {xs : List k0.D} {hole : Option (List Step)} (hx : operand cx sl x = some (.sl r ver p 0 n)) (hy : operand cx sl y = some (.data (.int ik) i)) (hr : H r = some (.arr fl k0 xs ver hole)) (hp : rowKind H r p = some k) (hk : kindAt cx t = some (.slice k)) (hi : 0 ≤ i ∧ i < n) : evalOp cx h F ⟨d, .indexAddr t x y, ty, pos, af, g⟩ ⟨sl, H, nx⟩ nid = some ⟨.el r ver p i [], H⟩ := by
  unfold evalOp
  simp only [hx, hy, Lite.indexAddr, Lite.asInt, hr, hp, beq_self_eq_true, Bool.or_true, hk, hi.1, hi.2, decide_true, Bool.true_and, chk, Int.zero_add]
theorem eIxF {i n : Int} {ik : IntKind} {r ver : Nat} {xs : List k.D} (hx : operand cx sl x = some (.sl r ver [] 0 n)) (hy : operand cx sl y = some (.data (.int ik) i)) (hr : H r = some (.frz k xs)) (hk : kindAt cx t = some (.slice k)) (hi : 0 ≤ i ∧ i < n) : evalOp cx h F ⟨d, .indexAddr t x y, ty, pos, af, g⟩ ⟨sl, H, nx⟩ nid = some ⟨.at k (xs.getD i.toNat k.zero), H⟩ := by
  unfold evalOp
  simp only [hx, hy, Lite.indexAddr, Lite.asInt, hr, hk, beq_self_eq_true, hi.1, hi.2, decide_true, Bool.true_and, chk, Int.zero_add]
theorem eIdxS {i : Int} {ik : IntKind} {s : ByteArray} (hx : operand cx sl x = some (.data .str s)) (hy : operand cx sl y = some (.data (.int ik) i)) (hk : tdAt cx t = some .string) (hi : 0 ≤ i ∧ i < (s.size : Nat)) : evalOp cx h F ⟨d, .index t x y, ty, pos, af, g⟩ ⟨sl, H, nx⟩ nid = some ⟨.data (.int .u8) (((s.data.toList.getD i.toNat 0).toNat : Nat) : Int), H⟩ := by
  unfold evalOp
  simp only [hx, hy, Lite.index, Lite.asInt, hk, beq_self_eq_true, hi.1, hi.2, decide_true, Bool.true_and, chk, intV]
theorem eIdxA {i : Int} {ik : IntKind} {n : Nat} {ds : List k.D} (hx : operand cx sl x = some (.data (.array n k) ds)) (hy : operand cx sl y = some (.data (.int ik) i)) (hk : kindAt cx t = some (.array n k)) (hi : 0 ≤ i ∧ i < (n : Nat)) : evalOp cx h F ⟨d, .index t x y, ty, pos, af, g⟩ ⟨sl, H, nx⟩ nid = some ⟨.data k (ds.getD i.toNat k.zero), H⟩ := by
  unfold evalOp
  simp only [hx, hy, Lite.index, Lite.asInt, hk, beq_self_eq_true, hi.1, hi.2, decide_true, Bool.true_and, chk]

/-! ### Slices -/
theorem eMk {n : Int} {ik ik' : IntKind} {e : TypeId} {i : Ty} (hx : operand cx sl x = some (.data (.int ik) n)) (hy : operand cx sl y = some (.data (.int ik') n)) (he : elemKind cx t = some (e, i, k)) (hg : growFl h t = none) (hn : 0 ≤ n ∧ n ≤ 1073741824 ∧ n * i.bytes ≤ 1073741824) : evalOp cx h F ⟨d, .makeSlice t x y, ty, pos, af, g⟩ ⟨sl, H, nx⟩ nid = some ⟨.sl nid 0 [] 0 n, upd nid (some (.arr .no k (List.replicate n.toNat k.zero) 0 none)) H⟩ := by
  obtain ⟨h1, h2, h3⟩ := hn
  have hc : (decide (0 ≤ n) && decide (n ≤ n) && decide (n ≤ (LIM : Nat)) && decide (n * i.bytes ≤ (LIM : Nat)) && ((growFl h t).getD .no == .no)) = true := by
    have e2 : n ≤ ((LIM : Nat) : Int) := h2
    have e3 : n * i.bytes ≤ ((LIM : Nat) : Int) := h3
    simp only [hg, h1, Int.le_refl, e2, e3, decide_true, Bool.and_true, Option.getD]
    rfl
  unfold evalOp
  simp only [hx, hy, Lite.makeSlice, he, hc, chk]
theorem eMkG {n c : Int} {ik ik' : IntKind} {e : TypeId} {i : Ty} (hx : operand cx sl x = some (.data (.int ik) n)) (hy : operand cx sl y = some (.data (.int ik') c)) (he : elemKind cx t = some (e, i, k)) (hg : (growFl h t).getD .no = .no) (hn : 0 ≤ n ∧ n ≤ c ∧ c ≤ 1073741824 ∧ c * i.bytes ≤ 1073741824) : evalOp cx h F ⟨d, .makeSlice t x y, ty, pos, af, g⟩ ⟨sl, H, nx⟩ nid = some ⟨.sl nid 0 [] 0 n, upd nid (some (.arr .no k (List.replicate n.toNat k.zero) 0 none)) H⟩ := by
  obtain ⟨h1, h0, h2, h3⟩ := hn
  have hc : (decide (0 ≤ n) && decide (n ≤ c) && decide (c ≤ (LIM : Nat)) && decide (c * i.bytes ≤ (LIM : Nat)) && ((growFl h t).getD .no == .no)) = true := by
    have e2 : c ≤ ((LIM : Nat) : Int) := h2
    have e3 : c * i.bytes ≤ ((LIM : Nat) : Int) := h3
    simp only [hg, h1, h0, e2, e3, decide_true, Bool.and_true]
    rfl
  unfold evalOp
  simp only [hx, hy, Lite.makeSlice, he, hc, chk]

def opt (cx : Cx) (sl : Slots) (y : Option Operand) : Option (Option AV) := match y with | some y => (match operand cx sl y with | some v => some (some v) | none => none) | none => some none
theorem eCut {a v : AV} {lo hi mx : Option Operand} {lo' hi' mx' : Option AV} (hx : operand cx sl x = some a) (hlo : opt cx sl lo = some lo') (hhi : opt cx sl hi = some hi') (hmx : opt cx sl mx = some mx') (hv : cut cx H t a lo' hi' mx' = some v) : evalOp cx h F ⟨d, .slice t x lo hi mx, ty, pos, af, g⟩ ⟨sl, H, nx⟩ nid = some ⟨v, H⟩ := by
  have e : evalOp cx h F ⟨d, .slice t x lo hi mx, ty, pos, af, g⟩ ⟨sl, H, nx⟩ nid = (match operand cx sl x, opt cx sl lo, opt cx sl hi, opt cx sl mx with
    | some x, some lo, some hi, some mx => (match cut cx H t x lo hi mx with | some v => some ⟨v, H⟩ | none => none)
    | _, _, _, _ => none) := rfl
  rw [e]
  simp only [hx, hlo, hhi, hmx, hv]
theorem chkT {α : Type} {b : Bool} {f : Unit → Option α} {r : α} (hb : b = true) (hf : f () = some r) : chk b f = some r := by subst hb; exact hf
theorem cutD {ds : List k.D} {ik ik' : IntKind} {l m : Int} (hk : kindAt cx t = some (.slice k)) (hb : 0 ≤ l ∧ l ≤ m ∧ m ≤ (ds.length : Nat)) : cut cx H t (.data (.slice k) ds) (some (.data (.int ik) l)) (some (.data (.int ik') m)) none = some (.data (.slice k) ((ds.drop l.toNat).take (m - l).toNat)) := by
  unfold cut
  simp only [lowOf, highOf, Lite.asInt]
  refine chkT ?_ rfl
  rw [hk]; simp [within, hb]
theorem cutDh {ds : List k.D} {ik' : IntKind} {m : Int} (hk : kindAt cx t = some (.slice k)) (hb : 0 ≤ m ∧ m ≤ (ds.length : Nat)) : cut cx H t (.data (.slice k) ds) none (some (.data (.int ik') m)) none = some (.data (.slice k) (ds.take m.toNat)) := by
  unfold cut
  simp only [lowOf, highOf, Lite.asInt]
  refine chkT ?_ ?_
  · rw [hk]; simp [within, hb]
  · simp
theorem cutDl {ds : List k.D} {ik : IntKind} {l : Int} (hk : kindAt cx t = some (.slice k)) (hb : 0 ≤ l ∧ l ≤ (ds.length : Nat)) : cut cx H t (.data (.slice k) ds) (some (.data (.int ik) l)) none none = some (.data (.slice k) (ds.drop l.toNat)) := by
  unfold cut
  simp only [lowOf, highOf, Lite.asInt]
  refine chkT ?_ ?_
  · rw [hk]; simp [within, hb]
  · have : ((ds.length : Nat) - l).toNat = (ds.drop l.toNat).length := by rw [List.length_drop]; omega
    rw [this, List.take_length]
/-- The front of a row of our own. -/
theorem cutSh {r ver : Nat} {n m : Int} {ik : IntKind} {fl : Fl} {xs : List k.D} (hr : H r = some (.arr fl k xs ver none)) (hk : kindAt cx t = some (.slice k)) (hb : 0 ≤ m ∧ m ≤ n) : cut cx H t (.sl r ver [] 0 n) none (some (.data (.int ik) m)) none = some (.sl r ver [] 0 m) := by
  have hv : view H r ver [] = some ⟨fl, ⟨k, xs⟩, true⟩ := by simp only [view, hr, List.isEmpty, Bool.true_or, Fl.path, getP]
  unfold cut
  simp only [lowOf, highOf, Lite.asInt, hv]
  refine chkT ?_ ?_
  · rw [hk]; simp [within, hb]
  · simp
theorem cutS {r ver : Nat} {n l m : Int} {ik ik' : IntKind} {fl : Fl} {xs : List k.D} (hr : H r = some (.arr fl k xs ver none)) (hk : kindAt cx t = some (.slice k)) (hb : 0 ≤ l ∧ l ≤ m ∧ m ≤ n) : cut cx H t (.sl r ver [] 0 n) (some (.data (.int ik) l)) (some (.data (.int ik') m)) none = some (.sl r ver [] l (m - l)) := by
  have hv : view H r ver [] = some ⟨fl, ⟨k, xs⟩, true⟩ := by simp only [view, hr, List.isEmpty, Bool.true_or, Fl.path, getP]
  unfold cut
  simp only [lowOf, highOf, Lite.asInt, hv]
  refine chkT ?_ ?_
  · rw [hk]; simp [within, hb]
  · simp
theorem cutSl {r ver : Nat} {n l : Int} {ik : IntKind} {fl : Fl} {xs : List k.D} (hr : H r = some (.arr fl k xs ver none)) (hk : kindAt cx t = some (.slice k)) (hb : 0 ≤ l ∧ l ≤ n) : cut cx H t (.sl r ver [] 0 n) (some (.data (.int ik) l)) none none = some (.sl r ver [] l (n - l)) := by
  have hv : view H r ver [] = some ⟨fl, ⟨k, xs⟩, true⟩ := by simp only [view, hr, List.isEmpty, Bool.true_or, Fl.path, getP]
  unfold cut
  simp only [lowOf, highOf, Lite.asInt, hv]
  refine chkT ?_ ?_
  · rw [hk]; simp [within, hb]
  · simp
theorem cutStr {s : ByteArray} {ik ik' : IntKind} {l m : Int} (hk : tdAt cx t = some .string) (hb : 0 ≤ l ∧ l ≤ m ∧ m ≤ (s.size : Nat)) : cut cx H t (.data .str s) (some (.data (.int ik) l)) (some (.data (.int ik') m)) none = some (.data .str (s.extract l.toNat m.toNat)) := by
  unfold cut
  simp only [lowOf, highOf, Lite.asInt]
  refine chkT ?_ rfl
  rw [hk]; simp [within, hb]

/-! ### Maps -/
theorem eMkM {a b : TypeId} {i : Ty} {ka kb : K} (ht : cx.ty t = some i) (hi : i.td = .map a b) (hka : kindAt cx a = some ka) (hkb : kindAt cx b = some kb) (hk : (keyKind ka && kb.flatRows) = true) : evalOp cx h F ⟨d, .makeMap t none, ty, pos, af, g⟩ ⟨sl, H, nx⟩ nid = some ⟨.mp nid, upd nid (some (.mp ka kb [])) H⟩ := by
  have htd : tdAt cx t = some (.map a b) := tdOfTy ht hi
  unfold evalOp
  simp only [htd, hka, hkb, hk, Bool.and_true]
theorem mapKindsOf {a b : TypeId} {i : Ty} {ka kb : K} (ht : cx.ty t = some i) (hi : i.td = .map a b) (hka : kindAt cx a = some ka) (hkb : kindAt cx b = some kb) (hk : keyKind ka = true) : mapKinds cx t ka kb = true := by
  unfold mapKinds
  rw [tdOfTy ht hi]
  simp [hka, hkb, hk]
theorem eLook {r : Nat} {ka kb : K} {es : List (ka.D × kb.D)} {key : ka.D} {ok : Bool} (hx : operand cx sl x = some (.mp r)) (hy : operand cx sl y = some (.data ka key)) (hr : H r = some (.mp ka kb es)) (hk : mapKinds cx t ka kb = true) : evalOp cx h F ⟨d, .lookup t x y ok, ty, pos, af, g⟩ ⟨sl, H, nx⟩ nid = some ⟨lookRes ok kb ((lookupK ka kb key es).getD kb.zero) (lookupK ka kb key es).isSome, H⟩ := by
  have hd : asData cx H ka (.data ka key) = some key := asData_data
  unfold evalOp
  simp only [hx, hy, Lite.lookup, hr, hd, hk]
theorem eMapS {r : Nat} {ka kb : K} {es : List (ka.D × kb.D)} {key : ka.D} {v : kb.D} (hx : operand cx sl x = some (.mp r)) (hy : operand cx sl y = some (.data ka key)) (hz : operand cx sl z = some (.data kb v)) (hr : H r = some (.mp ka kb es)) (hk : mapKinds cx t ka kb = true) (hf : (keyKind ka && kb.flatRows) = true) : evalOp cx h F ⟨d, .mapUpdate t x y z, ty, pos, af, g⟩ ⟨sl, H, nx⟩ nid = some ⟨.skip, upd r (some (.mp ka kb (insertK ka kb key v es))) H⟩ := by
  have hd : asData cx H ka (.data ka key) = some key := asData_data
  have hd' : asData cx H kb (.data kb v) = some v := asData_data
  have hk' : (keyKind ka && kb.flatRows && mapKinds cx t ka kb) = true := by rw [hf, hk]; rfl
  unfold evalOp
  simp only [hx, hy, hz, Lite.mapUpdate, hr, hd, hd', hk']

/-! ### Functions -/
theorem eFn {f : FuncId} {ps : Array Operand} {caps : List AV} (hc : mapAll (operand cx sl) ps.toList = some caps) : evalOp cx h F ⟨d, .makeFunc (.func f) #[] ps, ty, pos, af, g⟩ ⟨sl, H, nx⟩ nid = some ⟨.fn f caps, H⟩ := by
  unfold evalOp
  simp only [hc]
theorem eLen {a : AV} {n : Int} {ts : Array TypeId} {t : TypeId} {l : List TypeId} {xs : Array Operand} (ht : ts.toList = t :: l) (hxs : mapAll (operand cx sl) xs.toList = some [a]) (hn : lenOf cx H t a = some n) : evalOp cx h F ⟨d, .call ⟨.builtin .len, xs, ts⟩, ty, pos, af, g⟩ ⟨sl, H, nx⟩ nid = some ⟨.data (.int .i64) n, H⟩ := by
  unfold evalOp
  simp only [hxs, ht, hn, intV]
theorem isSliceOf {i : Ty} {e : TypeId} (ht : cx.ty t = some i) (hi : i.td = .slice e) : isSliceT cx t = true := by unfold isSliceT; rw [tdOfTy ht hi]
theorem lenD {ds : List k.D} (hk : isSliceT cx t = true) : lenOf cx H t (.data (.slice k) ds) = some ((ds.length : Nat) : Int) := by simp only [lenOf, hk, chk]
theorem lenL {ds : List k.D} (hk : isSliceT cx t = true) : lenOf cx H t (.lit k ds) = some ((ds.length : Nat) : Int) := by simp only [lenOf, hk, chk]
theorem lenN (hk : isSliceT cx t = true) : lenOf cx H t (.nilS u) = some 0 := by simp only [lenOf, hk, chk]
theorem lenS {r ver : Nat} {p : List Step} {off n : Int} (hk : isSliceT cx t = true) : lenOf cx H t (.sl r ver p off n) = some n := by simp only [lenOf, hk, chk]
theorem lenStr {s : ByteArray} (hk : tdAt cx t = some .string) : lenOf cx H t (.data .str s) = some ((s.size : Nat) : Int) := by simp only [lenOf, hk, beq_self_eq_true, chk]
theorem lenM {r : Nat} {ka kb : K} {es : List (ka.D × kb.D)} {i : Ty} {a b : TypeId} (ht : cx.ty t = some i) (hi : i.td = .map a b) (hr : H r = some (.mp ka kb es)) : lenOf cx H t (.mp r) = some ((es.length : Nat) : Int) := by
  have : isMapT cx t = true := by unfold isMapT; rw [tdOfTy ht hi]
  simp only [lenOf, hr, this, chk]
theorem eMin {a v : AV} {us : List AV} {xs : Array Operand} {ts : Array TypeId} (hxs : mapAll (operand cx sl) xs.toList = some (a :: us)) (hv : minmax false a us = some v) : evalOp cx h F ⟨d, .call ⟨.builtin .min, xs, ts⟩, ty, pos, af, g⟩ ⟨sl, H, nx⟩ nid = some ⟨v, H⟩ := by
  unfold evalOp
  simp only [hxs, hv]
theorem eMax {a v : AV} {us : List AV} {xs : Array Operand} {ts : Array TypeId} (hxs : mapAll (operand cx sl) xs.toList = some (a :: us)) (hv : minmax true a us = some v) : evalOp cx h F ⟨d, .call ⟨.builtin .max, xs, ts⟩, ty, pos, af, g⟩ ⟨sl, H, nx⟩ nid = some ⟨v, H⟩ := by
  unfold evalOp
  simp only [hxs, hv]
theorem eApp {a b v : AV} {H' : Heap} {u' : TypeId} {i : Ty} {xs : Array Operand} {ts : Array TypeId} (hts : ts.toList = [t, u']) (hxs : mapAll (operand cx sl) xs.toList = some [a, b]) (hu : cx.ty u' = some i) (hd : srcOk i.td b = true) (hv : Lite.append cx h H t a b nid = some (v, H')) : evalOp cx h F ⟨d, .call ⟨.builtin .append, xs, ts⟩, ty, pos, af, g⟩ ⟨sl, H, nx⟩ nid = some ⟨v, H'⟩ := by
  unfold evalOp
  have : tdAt cx u' = some i.td := tdOfTy hu rfl
  simp only [hxs, hts, this, hd, hv]
theorem eCall {f : FuncId} {caps args : List AV} {v : AV} {H' : Heap} {xs : Array Operand} {ts : Array TypeId} (hxs : mapAll (operand cx sl) xs.toList = some args) (hf : operand cx sl x = some (.fn f caps)) (hv : doCall cx F f (args ++ caps) H nid = some (v, H')) : evalOp cx h F ⟨d, .call ⟨.value x, xs, ts⟩, ty, pos, af, g⟩ ⟨sl, H, nx⟩ nid = some ⟨v, H'⟩ := by
  unfold evalOp
  simp only [hxs, hf, hv]
end
end Go.Lite
end

section
/-
  LITE 82: appends, calls, ends; code with cuts; loops as functions.
-/
set_option linter.unusedVariables false
set_option linter.unusedSimpArgs false
namespace Go.Lite
open Go

section
variable {cx : Cx} {h : Hint} {F : CallF} {nt : Nat} {ops : Array Oper} {H : Heap} {nid : Nat} {t u : TypeId} {k : K}

/-! ### Contents -/
theorem contD {l : List k.D} : content cx H (.data (.slice k) l) = some ⟨k, l⟩ := rfl
theorem contL {l : List k.D} : content cx H (.lit k l) = some ⟨k, l⟩ := rfl
theorem contS {r ver : Nat} {n : Int} {fl : Fl} {xs : List k.D} (hr : H r = some (.arr fl k xs ver none)) : content cx H (.sl r ver [] 0 n) = some ⟨k, xs.take n.toNat⟩ := by
  simp only [content, view, hr, List.isEmpty, Bool.true_or, Fl.path, getP, Rw.cut, Int.toNat_zero, List.drop_zero]
theorem contSF {r ver : Nat} {fl : Fl} {xs : List k.D} (hr : H r = some (.arr fl k xs ver none)) : content cx H (.sl r ver [] 0 ((xs.length : Nat) : Int)) = some ⟨k, xs⟩ := by
  rw [contS hr]
  simp only [Int.toNat_natCast, List.take_length]
theorem contSo {r ver : Nat} {off n : Int} {fl : Fl} {xs : List k.D} (hr : H r = some (.arr fl k xs ver none)) : content cx H (.sl r ver [] off n) = some ⟨k, (xs.drop off.toNat).take n.toNat⟩ := by
  simp only [content, view, hr, List.isEmpty, Bool.true_or, Fl.path, getP, Rw.cut]
theorem contF {r ver : Nat} {n : Int} {xs : List k.D} (hr : H r = some (.frz k xs)) : content cx H (.sl r ver [] 0 n) = some ⟨k, xs.take n.toNat⟩ := by
  simp only [content, view, hr, Rw.cut, Int.toNat_zero, List.drop_zero]
theorem contFF {r ver : Nat} {xs : List k.D} (hr : H r = some (.frz k xs)) : content cx H (.sl r ver [] 0 ((xs.length : Nat) : Int)) = some ⟨k, xs⟩ := by
  rw [contF hr]
  simp only [Int.toNat_natCast, List.take_length]
theorem contN {i j : Ty} {e : TypeId} (ht : cx.ty t = some i) (hi : i.td = .slice e) (he : cx.ty e = some j) (hk : j.kind = some k) : content cx H (.nilS t) = some ⟨k, []⟩ := by
  obtain ⟨td, a, b, c⟩ := i
  obtain ⟨td', a', b', c'⟩ := j
  simp only at hi hk
  subst hi hk
  simp only [content, ht, he]

/-! ### As data -/
theorem dD {dd : k.D} : asData cx H k (.data k dd) = some dd := asData_data
theorem read_sl {l : List k.D} {v : AV} (hv : cellAs (.slice k) v = some l) : K.read (.slice k) [v] = some (l, []) := by
  show readOne (.slice k) [v] = _
  simp only [readOne, hv]; rfl
theorem asData_cont {r ver : Nat} {p : List Step} {off n : Int} {l : List k.D} (hc : content cx H (.sl r ver p off n) = some ⟨k, l⟩) : asData cx H (.slice k) (.sl r ver p off n) = some l := by
  have hcs : K.cast? (.slice k) (.slice k) (l : List k.D) = some (l : List k.D) := cast_same
  have h2 := read_sl (k := k) (v := .data (.slice k) l) (l := l) hcs
  simp only [asData, K.isAgg, AV.lend, hc, h2]; rfl
theorem dL {l : List k.D} : asData cx H (.slice k) (.lit k l) = some l := by
  have hcs : K.cast? (.slice k) (.slice k) (l : List k.D) = some (l : List k.D) := cast_same
  have h2 := read_sl (k := k) (v := .lit k l) (l := l) hcs
  simp only [asData, K.isAgg, AV.lend, h2]; rfl
theorem dN : asData cx H (.slice k) (.nilS t) = some ([] : List k.D) := by
  have h2 := read_sl (k := k) (v := .nilS t) (l := []) rfl
  simp only [asData, K.isAgg, AV.lend, h2]; rfl
theorem dG {vs : List AV} {dd : k.D} (ha : k.isAgg = true) (hr : k.read (vs.map (AV.lend cx H)) = some (dd, [])) : asData cx H k (.agg vs) = some dd := by
  simp only [asData, ha, hr]
theorem lendS {r ver : Nat} {p : List Step} {off n : Int} {l : List k.D} (hc : content cx H (.sl r ver p off n) = some ⟨k, l⟩) : AV.lend cx H (.sl r ver p off n) = .data (.slice k) l := by
  simp only [AV.lend, hc]

/-! ### Appending -/
theorem addC {b : AV} {l : List k.D} (hs : ∀ s, b ≠ .data .str s) (hc : content cx H b = some ⟨k, l⟩) : added cx H .no k b = some (l, match k.flatRows with | true => H | false => freeze H b.ids) := by
  have hcs : K.cast? (.slice k) (.slice k) (l : List k.D) = some (l : List k.D) := cast_same
  unfold added
  split
  · rename_i s; exact absurd rfl (hs s)
  · simp only [hc, hcs]; rfl
/-- To a row of our own. -/
theorem appS {r ver : Nat} {off n : Int} {xs new : List k.D} {b : AV} {e : TypeId} {i : Ty} {H1 : Heap} {k1 : K} {fl fl1 : Fl} {xs1 : List k1.D} {v1 : Nat} {h1 : Option (List Step)} (he : elemKind cx t = some (e, i, k)) (hr : H r = some (.arr fl k xs ver none)) (ha : added cx H fl k b = some (new, H1)) (hr1 : H1 r = some (.arr fl1 k1 xs1 v1 h1))
    (hb : (((xs.drop off.toNat).take n.toNat).length + new.length) * i.bytes ≤ 1073741824 ∧ ((xs.drop off.toNat).take n.toNat).length + new.length ≤ 1073741824) :
    Lite.append cx h H t (.sl r ver [] off n) b nid = some (.sl nid 0 [] 0 ((((xs.drop off.toNat).take n.toNat ++ new).length : Nat) : Int), upd r none (upd nid (some (.arr fl k ((xs.drop off.toNat).take n.toNat ++ new) 0 none)) H1)) := by
  have hcs : K.cast? (.slice k) (.slice k) (xs : List k.D) = some (xs : List k.D) := cast_same
  have hc : (decide ((((xs.drop off.toNat).take n.toNat).length + new.length) * i.bytes ≤ LIM) && decide (((xs.drop off.toNat).take n.toNat).length + new.length ≤ LIM)) = true := by
    simp only [LIM, Bool.and_eq_true]; exact ⟨decide_eq_true hb.1, decide_eq_true hb.2⟩
  simp only [Lite.append, he, hr, view, List.isEmpty, Bool.true_or, Fl.path, getP, hcs, ha, hr1, appPut, hc, chk, left]
/-- All of a row of our own. -/
theorem appF {r ver : Nat} {xs new : List k.D} {b : AV} {e : TypeId} {i : Ty} {H1 : Heap} {k1 : K} {fl fl1 : Fl} {xs1 : List k1.D} {v1 : Nat} {h1 : Option (List Step)} (he : elemKind cx t = some (e, i, k)) (hr : H r = some (.arr fl k xs ver none)) (ha : added cx H fl k b = some (new, H1)) (hr1 : H1 r = some (.arr fl1 k1 xs1 v1 h1))
    (hb : (xs.length + new.length) * i.bytes ≤ 1073741824 ∧ xs.length + new.length ≤ 1073741824) :
    Lite.append cx h H t (.sl r ver [] 0 ((xs.length : Nat) : Int)) b nid = some (.sl nid 0 [] 0 (((xs ++ new).length : Nat) : Int), upd r none (upd nid (some (.arr fl k (xs ++ new) 0 none)) H1)) := by
  have e : (xs.drop (0 : Int).toNat).take ((xs.length : Nat) : Int).toNat = xs := by simp
  have := appS (h := h) (nid := nid) (off := 0) (n := ((xs.length : Nat) : Int)) he hr ha hr1 (by rw [e]; exact hb)
  rw [e] at this
  exact this
/-- The front of a row of our own. -/
theorem appH {r ver : Nat} {n : Int} {xs new : List k.D} {b : AV} {e : TypeId} {i : Ty} {H1 : Heap} {k1 : K} {fl fl1 : Fl} {xs1 : List k1.D} {v1 : Nat} {h1 : Option (List Step)} (he : elemKind cx t = some (e, i, k)) (hr : H r = some (.arr fl k xs ver none)) (ha : added cx H fl k b = some (new, H1)) (hr1 : H1 r = some (.arr fl1 k1 xs1 v1 h1))
    (hb : ((xs.take n.toNat).length + new.length) * i.bytes ≤ 1073741824 ∧ (xs.take n.toNat).length + new.length ≤ 1073741824) :
    Lite.append cx h H t (.sl r ver [] 0 n) b nid = some (.sl nid 0 [] 0 (((xs.take n.toNat ++ new).length : Nat) : Int), upd r none (upd nid (some (.arr fl k (xs.take n.toNat ++ new) 0 none)) H1)) := by
  have e : (xs.drop (0 : Int).toNat).take n.toNat = xs.take n.toNat := by simp
  have := appS (h := h) (nid := nid) (off := 0) (n := n) he hr ha hr1 (by rw [e]; exact hb)
  rw [e] at this
  exact this
/-- To a literal. -/
theorem appL {xs new : List k.D} {a : k.D} {b : AV} {e : TypeId} {i : Ty} {H1 : Heap} (he : elemKind cx t = some (e, i, k)) (ha : added cx H .no k b = some (a :: new, H1)) (hb : (xs.length + (a :: new).length) * i.bytes ≤ 1073741824 ∧ xs.length + (a :: new).length ≤ 1073741824) :
    Lite.append cx h H t (.lit k xs) b nid = some (.sl nid 0 [] 0 (((xs ++ a :: new).length : Nat) : Int), upd nid (some (.arr .no k (xs ++ a :: new) 0 none)) H1) := by
  have hcs : K.cast? (.slice k) (.slice k) (xs : List k.D) = some (xs : List k.D) := cast_same
  have hc : (decide ((xs.length + (a :: new).length) * i.bytes ≤ LIM) && decide (xs.length + (a :: new).length ≤ LIM)) = true := by
    simp only [LIM, Bool.and_eq_true]; exact ⟨decide_eq_true hb.1, decide_eq_true hb.2⟩
  simp only [Lite.append, he, hcs, ha, appPut, hc, chk]
theorem appN {a : k.D} {new : List k.D} {b : AV} {e : TypeId} {i : Ty} {H1 : Heap} {fl : Fl} (he : elemKind cx t = some (e, i, k)) (hg : (growFl h t).getD .no = fl) (ha : added cx H fl k b = some (a :: new, H1)) (hb : (0 + (a :: new).length) * i.bytes ≤ 1073741824 ∧ 0 + (a :: new).length ≤ 1073741824) :
    Lite.append cx h H t (.nilS u) b nid = some (.sl nid 0 [] 0 (((a :: new).length : Nat) : Int), upd nid (some (.arr fl k (a :: new) 0 none)) H1) := by
  have hc : (decide ((([] : List k.D).length + (a :: new).length) * i.bytes ≤ LIM) && decide (([] : List k.D).length + (a :: new).length ≤ LIM)) = true := by
    simp only [LIM, Bool.and_eq_true, List.length_nil]; exact ⟨decide_eq_true hb.1, decide_eq_true hb.2⟩
  simp only [Lite.append, he, hg, ha, appPut, hc, chk, List.nil_append]

/-! ### Calls -/
theorem hoN {i : Nat} {own : List Nat} {vs : List AV} : handOver cx H own i [] vs = some (vs, []) := rfl
/-- What has no kind as data goes as it is. -/
theorem hoV {i : Nat} {own : List Nat} {ts : List TypeId} {v : AV} {vs rest : List AV} {lent : List Nat} {j : Ty} (ht : cx.ty t = some j) (hk : j.kind = none) (hr : handOver cx H own (i + 1) ts vs = some (rest, lent)) : handOver cx H own i (t :: ts) (v :: vs) = some (v :: rest, lent) := by
  simp only [handOver, hr, ht, Option.map_some, hk]
  cases own.contains i <;> rfl
/-- What is handed over goes as it is. -/
theorem hoO {i : Nat} {own : List Nat} {ts : List TypeId} {v : AV} {vs rest : List AV} {lent : List Nat} (ho : own.contains i = true) (hr : handOver cx H own (i + 1) ts vs = some (rest, lent)) : handOver cx H own i (t :: ts) (v :: vs) = some (v :: rest, lent) := by
  simp only [handOver, hr, ho]
/-- Data. -/
theorem hoD {i : Nat} {own : List Nat} {ts : List TypeId} {v : AV} {vs rest : List AV} {lent : List Nat} {j : Ty} {dd : k.D} (ho : own.contains i = false) (ht : cx.ty t = some j) (hk : j.kind = some k) (hv : asData cx H k v = some dd) (hr : handOver cx H own (i + 1) ts vs = some (rest, lent)) : handOver cx H own i (t :: ts) (v :: vs) = some (.data k dd :: rest, match k.flatRows with | true => lent | false => v.ids ++ lent) := by
  simp only [handOver, hr, ho, ht, Option.map_some, hk, hv]; rfl
theorem chkLen : (decide (([] : List Nat).length ≤ ([] : List (Option Root)).length) && decide (([] : List (Option Root)).length ≤ ([] : List Nat).length + 8)) = true := rfl
/-- A call that takes and gives data. -/
theorem callS {f : FuncId} {fn : Func} {c : Code} {ts : List TypeId} {args args' : List AV} {lent : List Nat} {v : AV} (hf : cx.fn f = some fn) (hb : fn.body = some c) (hp : fn.params.toList = ts)
    (ho : handOver cx H (cx.hint f).own 0 ts args = some (args', lent)) (hs : stillAll args' = true) (hv : v.still = true) (hc : F f args' [] = some (v, [])) : doCall cx F f args H nid = some (v, match hasRows v with | true => freeze H lent | false => H) := by
  subst hp
  unfold doCall
  simp only [hf, hb, ho, stillAll_ids _ hs, reach, REACH]
  have h1 : lent.any (List.contains ([] : List Nat)) = false := by simp
  simp only [h1, mapAll, List.map_nil, stillAll_ren _ _ hs, hc, AV.still_ren _ _ hv, chk, giveBack, rowsAny, List.length_nil, Nat.le_refl, decide_true, Bool.true_and, Nat.zero_le, Bool.or_false]
  rfl

/-! ### Ends -/
theorem fvN {keep : List Nat} {i : Nat} : finishV cx keep i [] [] H = some ([], H) := rfl
theorem fvD {keep : List Nat} {i : Nat} {ts : List TypeId} {v : AV} {vs rest : List AV} {j : Ty} {dd : k.D} {H2 : Heap} (ho : keep.contains i = false) (ht : cx.ty t = some j) (hk : j.kind = some k) (hv : asData cx H k v = some dd) (hr : finishV cx keep (i + 1) ts vs (match k.flatRows with | true => H | false => freeze H v.ids) = some (rest, H2)) : finishV cx keep i (t :: ts) (v :: vs) H = some (.data k dd :: rest, H2) := by
  cases hk2 : k.flatRows <;> simp only [hk2] at hr <;> simp only [finishV, ho, ht, Option.map_some, hk, hv, hk2, hr] <;> rfl
def resVal (cx : Cx) (s : St) : ResultVar → Option AV
  | .tmp t => some (s.slots t)
  | .cell a t => load cx s.heap t (s.slots a)
/-- A function that takes and gives data. -/
theorem finS {fn : Func} {s : St} {rs : List ResultVar} {ts : List TypeId} {vs ds : List AV} {H2 : Heap} {v : AV} (hr : fn.results.toList = rs) (ht : fn.resultTypes.toList = ts) (hvs : mapAll (resVal cx s) rs = some vs)
    (hf : finishV cx [] 0 ts vs s.heap = some (ds, H2)) (hs : stillAll ds = true) (hv : oneOf ds = v) : finish cx fn [] 0 s = some (v, []) := by
  subst hr ht hv
  have hst : (oneOf ds).still = true := by
    unfold oneOf
    split
    · simpa [stillAll] using hs
    · exact hs
  unfold finish
  split
  · rename_i hn
    have hn : mapAll (resVal cx s) fn.results.toList = none := hn
    rw [hvs] at hn; cases hn
  · rename_i vs' hn
    have hn : mapAll (resVal cx s) fn.results.toList = some vs' := hn
    rw [hvs] at hn
    injection hn with hn
    subst hn
    simp only [hf]
    simp only [finishAt, AV.still_ids _ hst, List.range_zero, List.append_nil, List.nil_append, reach, REACH, AV.still_ren _ _ hst]
    rfl
end

/-! ### Code -/
section
variable {cx : Cx} {h : Hint} {F : CallF} {nt : Nat} {Q : Ex → St → Prop} {s : St}
def Code.l : Code → Code | .seq a _ => a | c => c
def Code.r : Code → Code | .seq _ b => b | c => c
def Code.b : Code → Code | .block _ c | .loop c | .scope c => c | c => c
def Code.t : Code → Code | .cond _ a _ => a | c => c
def Code.e : Code → Code | .cond _ _ b => b | c => c

/-- A region with or without a cut ahead of it and one behind it. -/
theorem wR {id} {ops : Array Oper} {b : Code} {s0 : St} (hc : cutAt h h.pre id s = some s0) (hp : (cutFor h.post id).isNone = true) (hq : WO cx h F nt ops ops.toList (fun s1 => WP cx h F nt b Q s1) s0) : WP cx h F nt (.seq (.region id ops false) b) Q s := by
  obtain ⟨s1, he, hq⟩ := hq
  refine wp_seq ⟨0, .norm, s1, ?_, hq⟩
  have : cutAt h h.post id s1 = some s1 := by unfold cutAt; rw [Option.isNone_iff_eq_none.1 hp]
  simp only [evalCode, hc, he, this]
theorem wR1 {id} {ops : Array Oper} {s0 : St} (hc : cutAt h h.pre id s = some s0) (hp : (cutFor h.post id).isNone = true) (hq : WO cx h F nt ops ops.toList (Q .norm) s0) : WP cx h F nt (.region id ops false) Q s := by
  obtain ⟨s1, he, hq⟩ := hq
  refine ⟨0, .norm, s1, ?_, hq⟩
  have : cutAt h h.post id s1 = some s1 := by unfold cutAt; rw [Option.isNone_iff_eq_none.1 hp]
  simp only [evalCode, hc, he, this]
theorem wRp {id} {ops : Array Oper} {b : Code} {s0 : St} (hc : cutAt h h.pre id s = some s0) (hq : WO cx h F nt ops ops.toList (fun s1 => ∃ s2, cutAt h h.post id s1 = some s2 ∧ WP cx h F nt b Q s2) s0) : WP cx h F nt (.seq (.region id ops false) b) Q s := by
  obtain ⟨s1, he, s2, hp, hq⟩ := hq
  refine wp_seq ⟨0, .norm, s2, ?_, hq⟩
  simp only [evalCode, hc, he, hp]
theorem wRp1 {id} {ops : Array Oper} {s0 : St} (hc : cutAt h h.pre id s = some s0) (hq : WO cx h F nt ops ops.toList (fun s1 => ∃ s2, cutAt h h.post id s1 = some s2 ∧ Q .norm s2) s0) : WP cx h F nt (.region id ops false) Q s := by
  obtain ⟨s1, he, s2, hp, hq⟩ := hq
  refine ⟨0, .norm, s2, ?_, hq⟩
  simp only [evalCode, hc, he, hp]
/-- A drawing region. -/
theorem wD {id} {ops : Array Oper} {b : Code} {s0 : St} (hg : h.grow = []) (hy : easy ops = true) (hc : cutAt h h.pre id s = some s0) (hp : (cutFor h.post id).isNone = true) (hq : WO cx h F nt ops ops.toList (fun s1 => WP cx h F nt b Q s1) s0) : WP cx h F nt (.seq (.region id ops true) b) Q s := by
  obtain ⟨s1, he, hq⟩ := hq
  refine wp_seq ⟨0, .norm, s1, ?_, hq⟩
  have : cutAt h h.post id s1 = some s1 := by unfold cutAt; rw [Option.isNone_iff_eq_none.1 hp]
  simp only [evalCode, hc, drawn_easy hg hy he, this]
theorem wD1 {id} {ops : Array Oper} {s0 : St} (hg : h.grow = []) (hy : easy ops = true) (hc : cutAt h h.pre id s = some s0) (hp : (cutFor h.post id).isNone = true) (hq : WO cx h F nt ops ops.toList (Q .norm) s0) : WP cx h F nt (.region id ops true) Q s := by
  obtain ⟨s1, he, hq⟩ := hq
  refine ⟨0, .norm, s1, ?_, hq⟩
  have : cutAt h h.post id s1 = some s1 := by unfold cutAt; rw [Option.isNone_iff_eq_none.1 hp]
  simp only [evalCode, hc, drawn_easy hg hy he, this]
theorem wDp {id} {ops : Array Oper} {b : Code} {s0 : St} (hg : h.grow = []) (hy : easy ops = true) (hc : cutAt h h.pre id s = some s0) (hq : WO cx h F nt ops ops.toList (fun s1 => ∃ s2, cutAt h h.post id s1 = some s2 ∧ WP cx h F nt b Q s2) s0) : WP cx h F nt (.seq (.region id ops true) b) Q s := by
  obtain ⟨s1, he, s2, hp, hq⟩ := hq
  refine wp_seq ⟨0, .norm, s2, ?_, hq⟩
  simp only [evalCode, hc, drawn_easy hg hy he, hp]

/-- Every iteration and the end of a loop, as a function. -/
def loopN {X E : Type} (body : X → Option (X ⊕ E)) : Nat → X → Option E
  | 0, _ => none
  | n + 1, x => match body x with
    | none => none
    | some (.inl x) => loopN body n x
    | some (.inr e) => some e
theorem loopN_mono {X E : Type} {body : X → Option (X ⊕ E)} : ∀ {n m : Nat} {x : X} {e : E}, n ≤ m → loopN body n x = some e → loopN body m x = some e
  | 0, _, _, _, _, h => by cases h
  | n + 1, 0, _, _, hle, _ => by omega
  | n + 1, m + 1, x, e, hle, h => by
    simp only [loopN] at h ⊢
    split at h
    · cases h
    · exact loopN_mono (by omega) h
    · exact h
open Classical in
noncomputable def loopP {X E : Type} (body : X → Option (X ⊕ E)) (x : X) : Option E := if h : ∃ n, (loopN body n x).isSome = true then loopN body (Classical.choose h) x else none
theorem loopP_some {X E : Type} {body : X → Option (X ⊕ E)} {x : X} {e : E} : loopP body x = some e ↔ ∃ n, loopN body n x = some e := by
  unfold loopP
  constructor
  · intro he
    split at he
    · exact ⟨_, he⟩
    · cases he
  · rintro ⟨n, hn⟩
    have hex : ∃ n, (loopN body n x).isSome = true := ⟨n, by rw [hn]; rfl⟩
    rw [dif_pos hex]
    obtain ⟨r, hr⟩ := Option.isSome_iff_exists.1 (Classical.choose_spec hex)
    have h1 := loopN_mono (Nat.le_max_left n (Classical.choose hex)) hn
    have h2 := loopN_mono (Nat.le_max_right n (Classical.choose hex)) hr
    rw [h1] at h2
    rw [hr]; exact h2.symm
/-- One round. -/
theorem loopP_eq {X E : Type} {body : X → Option (X ⊕ E)} {x : X} : loopP body x = (body x).bind fun o => match o with | .inl x => loopP body x | .inr e => some e := by
  cases hb : body x with
  | none =>
    cases hl : loopP body x with
    | none => rfl
    | some e =>
      obtain ⟨n, hn⟩ := loopP_some.1 hl
      cases n with
      | zero => cases hn
      | succ n => simp only [loopN, hb] at hn; cases hn
  | some o =>
    cases o with
    | inr e => exact loopP_some.2 ⟨1, by simp only [loopN, hb]⟩
    | inl x' =>
      show loopP body x = loopP body x'
      cases hl : loopP body x' with
      | some e =>
        obtain ⟨n, hn⟩ := loopP_some.1 hl
        exact loopP_some.2 ⟨n + 1, by simp only [loopN, hb]; exact hn⟩
      | none =>
        cases hl2 : loopP body x with
        | none => rfl
        | some e =>
          obtain ⟨n, hn⟩ := loopP_some.1 hl2
          cases n with
          | zero => cases hn
          | succ n =>
            simp only [loopN, hb] at hn
            rw [loopP_some.2 ⟨n, hn⟩] at hl
            cases hl
/-- A loop of code goes as a loop of functions. -/
theorem wLoop {X E : Type} {c : Code} {body : X → Option (X ⊕ E)} {Rel : X → St → Prop} {QE : E → Ex → St → Prop} (hb : ∀ x o s, body x = some o → Rel x s → WP cx h F nt c (fun ex s1 => match o with | .inl x' => ex = .norm ∧ Rel x' s1 | .inr e => ex ≠ .norm ∧ QE e ex s1) s)
    {x : X} {e : E} (hx : loopP body x = some e) (hr : Rel x s) (hQ : ∀ ex s1, QE e ex s1 → Q ex s1) : WP cx h F nt (.loop c) Q s := by
  obtain ⟨n, hn⟩ := loopP_some.1 hx
  clear hx
  induction n generalizing x s with
  | zero => cases hn
  | succ n ih =>
    simp only [loopN] at hn
    refine wp_loop1 ?_
    split at hn
    · cases hn
    · rename_i x' hx'
      refine (hb x _ s hx' hr).mono fun ex s1 hq => ?_
      obtain ⟨rfl, hr'⟩ := hq
      exact ih hr' hn
    · rename_i e' he'
      injection hn with hn
      subst hn
      refine (hb x _ s he' hr).mono fun ex s1 hq => ?_
      obtain ⟨hne, hq⟩ := hq
      cases ex with
      | norm => exact absurd rfl hne
      | ret => exact hQ _ _ hq
      | exit j => exact hQ _ _ hq
theorem bind_some {α β : Type} {x : Option α} {f : α → Option β} {r : β} (h : x.bind f = some r) : ∃ a, x = some a ∧ f a = some r := Option.bind_eq_some_iff.1 h
/-- A test, as a function and as code. -/
theorem wIf {α : Type} {c : Operand} {a b : Code} {x : Bool} {u v : Option α} {r : α} (hF : (if x = true then u else v) = some r) (hc : operand cx s.slots c = some (.data .bool x)) (h1 : x = true → u = some r → WP cx h F nt a Q s) (h2 : x = false → v = some r → WP cx h F nt b Q s) : WP cx h F nt (.cond c a b) Q s := by
  cases x with
  | true => exact wp_cond true hc (fun _ => h1 rfl hF) (fun h => by cases h)
  | false => exact wp_cond false hc (fun h => by cases h) (fun _ => h2 rfl hF)
theorem ifT {α : Type} {x : Bool} {u v : Option α} {r : α} {p : Prop} (hF : (if x = true then u else v) = some r) (h1 : x = true → u = some r → p) (h2 : x = false → v = some r → p) : p := by
  cases x with
  | true => exact h1 rfl hF
  | false => exact h2 rfl hF
end
end Go.Lite
end

section
/-
  LITE 83: functions by their printed form.
-/
set_option linter.unusedVariables false
set_option linter.unusedSimpArgs false
namespace Go.Lite
open Go

section
variable {cx : Cx} {h : Hint} {F : CallF} {nt : Nat} {Q : Ex → St → Prop} {s : St}
/-- The function ends, and has this to give. -/
def Ends (cx : Cx) (fn : Func) (v : AV) (ex : Ex) (s : St) : Prop := (ex = .norm ∨ ex = .ret) ∧ finish cx fn [] 0 s = some (v, [])
theorem fnW {f : FuncId} {fn : Func} {c : Code} {args : List AV} {r : AV} (hf : cx.fn f = some fn) (hb : fn.body = some c) (hh : cx.hint f = h) (hk : h.keep = []) (hw : WP cx h (evalLim cx) fn.ntmps c (Ends cx fn r) ⟨argsFrom 0 args, heapFrom 0 [], 0⟩) : evalLim cx f args [] = some (r, []) := by
  subst hh
  obtain ⟨k, ex, s, he, hx, hfin⟩ := hw
  exact fn_ok (roots := []) hf hb (namesOk_zero _) he hx (by rw [hk]; exact hfin)

/-- A region that parts, and a cut behind it. -/
theorem wRq {id} {ops : Array Oper} {b : Code} {s0 : St} {M : St → Prop} (hc : cutAt h h.pre id s = some s0) (hq : WO cx h F nt ops ops.toList (fun s1 => ∃ s2, cutAt h h.post id s1 = some s2 ∧ M s2) s0) (hb : ∀ s2, M s2 → WP cx h F nt b Q s2) : WP cx h F nt (.seq (.region id ops false) b) Q s := by
  obtain ⟨s1, he, s2, hp, hm⟩ := hq
  exact wRp hc ⟨s1, he, s2, hp, hb s2 hm⟩
theorem wRq1 {id} {ops : Array Oper} {s0 : St} {M : St → Prop} (hc : cutAt h h.pre id s = some s0) (hq : WO cx h F nt ops ops.toList (fun s1 => ∃ s2, cutAt h h.post id s1 = some s2 ∧ M s2) s0) (hb : ∀ s2, M s2 → Q .norm s2) : WP cx h F nt (.region id ops false) Q s := by
  obtain ⟨s1, he, s2, hp, hm⟩ := hq
  exact wRp1 hc ⟨s1, he, s2, hp, hb s2 hm⟩
theorem wDq {id} {ops : Array Oper} {b : Code} {s0 : St} {M : St → Prop} (hg : h.grow = []) (hy : easy ops = true) (hc : cutAt h h.pre id s = some s0) (hq : WO cx h F nt ops ops.toList (fun s1 => ∃ s2, cutAt h h.post id s1 = some s2 ∧ M s2) s0) (hb : ∀ s2, M s2 → WP cx h F nt b Q s2) : WP cx h F nt (.seq (.region id ops true) b) Q s := by
  obtain ⟨s1, he, s2, hp, hm⟩ := hq
  exact wDp hg hy hc ⟨s1, he, s2, hp, hb s2 hm⟩
end
section
variable {cx : Cx} {h : Hint} {F : CallF} {H : Heap} {nid : Nat}
/-- The function ends, and has this to give, and these roots. -/
def EndsG (cx : Cx) (fn : Func) (keep : List Nat) (m : Nat) (v : AV) (roots : List (Option Root)) (ex : Ex) (s : St) : Prop := (ex = .norm ∨ ex = .ret) ∧ finish cx fn keep m s = some (v, roots)
theorem fnG {f : FuncId} {fn : Func} {c : Code} {args : List AV} {roots : List Root} {m : Nat} {r : AV} {roots2 : List (Option Root)} (hf : cx.fn f = some fn) (hb : fn.body = some c) (hh : cx.hint f = h) (hm : roots.length = m) (hn : namesOk h m = true) (hw : WP cx h (evalLim cx) fn.ntmps c (EndsG cx fn h.keep m r roots2) ⟨argsFrom 0 args, heapFrom 0 (roots.map some), m⟩) : evalLim cx f args roots = some (r, roots2) := by
  subst hh hm
  obtain ⟨k, ex, s, he, hx, hfin⟩ := hw
  exact fn_ok hf hb hn he hx hfin
theorem mapN {α β : Type} {f : α → Option β} : mapAll f [] = some [] := rfl
theorem mapC {α β : Type} {f : α → Option β} {a : α} {b : β} {l : List α} {bs : List β} (h1 : f a = some b) (h2 : mapAll f l = some bs) : mapAll f (a :: l) = some (b :: bs) := by simp only [mapAll, h1, h2]
theorem resC {s : St} {a t r off : Nat} {cells : List AV} {i : Ty} {v : AV} (ha : s.slots a = .ptr r off) (hr : s.heap r = some (.box cells)) (ht : cx.ty t = some i) (hl : decide (off + i.size ≤ cells.length) = true) (hv : assemble i ((cells.drop off).take i.size) = some v) : resVal cx s (.cell a t) = some v := by
  simp only [resVal, ha, Lite.load, hr, ht, hl, hv]
theorem fvV {keep : List Nat} {i : Nat} {t : TypeId} {ts : List TypeId} {v : AV} {vs rest : List AV} {j : Ty} {H2 : Heap} (ht : cx.ty t = some j) (hk : j.kind = none) (hr : finishV cx keep (i + 1) ts vs H = some (rest, H2)) : finishV cx keep i (t :: ts) (v :: vs) H = some (v :: rest, H2) := by
  simp only [finishV, ht, Option.map_some, hk, hr]
  cases keep.contains i <;> rfl
theorem fvK {keep : List Nat} {i : Nat} {t : TypeId} {ts : List TypeId} {v : AV} {vs rest : List AV} {H2 : Heap} (hk : keep.contains i = true) (hr : finishV cx keep (i + 1) ts vs H = some (rest, H2)) : finishV cx keep i (t :: ts) (v :: vs) H = some (v :: rest, H2) := by
  simp only [finishV, hk, hr]
theorem finG {fn : Func} {s : St} {rs : List ResultVar} {ts : List TypeId} {keep : List Nat} {m : Nat} {vs ds : List AV} {H2 : Heap} {v : AV} {roots : List (Option Root)} (hr : fn.results.toList = rs) (ht : fn.resultTypes.toList = ts) (hvs : mapAll (resVal cx s) rs = some vs)
    (hf : finishV cx keep 0 ts vs s.heap = some (ds, H2)) (ha : finishAt (fun r => notFrozen (H2 r)) m (oneOf ds) = some (v, roots)) : finish cx fn keep m s = some (v, roots) := by
  subst hr ht
  unfold finish
  split
  · rename_i hn
    have hn : mapAll (resVal cx s) fn.results.toList = none := hn
    rw [hvs] at hn; cases hn
  · rename_i vs' hn
    have hn : mapAll (resVal cx s) fn.results.toList = some vs' := hn
    rw [hvs] at hn
    injection hn with hn
    subst hn
    simp only [hf]
    exact ha
theorem mlN : ([] : List AV).map (AV.lend cx H) = [] := rfl
theorem mlC {v v' : AV} {l l' : List AV} (h1 : AV.lend cx H v = v') (h2 : l.map (AV.lend cx H) = l') : (v :: l).map (AV.lend cx H) = v' :: l' := by rw [List.map_cons, h1, h2]
theorem dGm {k : K} {vs vs' : List AV} {dd : k.D} (ha : k.isAgg = true) (hm : vs.map (AV.lend cx H) = vs') (hr : k.read vs' = some (dd, [])) : asData cx H k (.agg vs) = some dd := dG ha (by rw [hm]; exact hr)
/-- A call that is lent roots of ours. -/
theorem callG {f : FuncId} {fn : Func} {c : Code} {ts : List TypeId} {args args' args2 : List AV} {lent ids : List Nat} {roots roots2 : List Root} {v2 : AV} {roots3 : List (Option Root)} (hf : cx.fn f = some fn) (hb : fn.body = some c) (hp : fn.params.toList = ts)
    (ho : handOver cx H (cx.hint f).own 0 ts args = some (args', lent)) (hre : reach H REACH (idsAll args') [] = some ids) (hl : lent.any ids.contains = false) (hm : mapAll H ids = some roots) (ha : renAll (pos? ids) args' = args2) (hr : roots.map (Root.ren (pos? ids)) = roots2)
    (hc : F f args2 roots2 = some (v2, roots3)) (hlen : (decide (ids.length ≤ roots3.length) && decide (roots3.length ≤ ids.length + 8)) = true) :
    doCall cx F f args H nid = some (v2.ren (backName ids nid roots3.length), giveBack (backName ids nid roots3.length) 0 roots3 (match hasRows v2 || rowsAny roots3 with | true => freeze H lent | false => H)) := by
  subst hp ha hr
  unfold doCall
  simp only [hf, hb, ho, hre, hl, hm, hc, hlen, chk]
  rfl
def upds : List (Nat × Option Root) → Heap → Heap
  | [], H => H
  | (i, r) :: l, H => upds l (upd i r H)
/-- The same, with what comes back spelled out. -/
theorem callH {f : FuncId} {fn : Func} {c : Code} {ts : List TypeId} {args args' args2 : List AV} {lent ids : List Nat} {roots roots2 : List Root} {v v2 : AV} {roots3 : List (Option Root)} {us : List (Nat × Option Root)} (hf : cx.fn f = some fn) (hb : fn.body = some c) (hp : fn.params.toList = ts)
    (ho : handOver cx H (cx.hint f).own 0 ts args = some (args', lent)) (hre : reach H REACH (idsAll args') [] = some ids) (hl : lent.any ids.contains = false) (hm : mapAll H ids = some roots) (ha : renAll (pos? ids) args' = args2) (hr : roots.map (Root.ren (pos? ids)) = roots2)
    (hc : F f args2 roots2 = some (v2, roots3)) (hlen : (decide (ids.length ≤ roots3.length) && decide (roots3.length ≤ ids.length + 8)) = true) (hv : v2.ren (backName ids nid roots3.length) = v) (hu : ∀ H0, giveBack (backName ids nid roots3.length) 0 roots3 H0 = upds us H0) :
    doCall cx F f args H nid = some (v, upds us (match hasRows v2 || rowsAny roots3 with | true => freeze H lent | false => H)) := by
  rw [callG hf hb hp ho hre hl hm ha hr hc hlen, hv, hu]
end

open Classical in
/-- What a function with fuel answers from some fuel on. -/
noncomputable def limP {α : Type} (g : Nat → Option α) : Option α := if h : ∃ r n0, ∀ n, n0 ≤ n → g n = some r then some (Classical.choose h) else none
theorem limP_some {α : Type} {g : Nat → Option α} {r : α} (h : limP g = some r) : ∃ n, g n = some r := by
  unfold limP at h
  split at h
  · rename_i hx
    injection h with h
    obtain ⟨n0, hn⟩ := Classical.choose_spec hx
    exact ⟨n0, by rw [hn n0 (Nat.le_refl _), h]⟩
  · cases h
theorem limP_of {α : Type} {g : Nat → Option α} {r : α} (n0 : Nat) (h : ∀ n, n0 ≤ n → g n = some r) : limP g = some r := by
  have hx : ∃ r n0, ∀ n, n0 ≤ n → g n = some r := ⟨r, n0, h⟩
  unfold limP
  rw [dif_pos hx]
  obtain ⟨n1, hn⟩ := Classical.choose_spec hx
  have h1 := hn (max n0 n1) (Nat.le_max_right _ _)
  have h2 := h (max n0 n1) (Nat.le_max_left _ _)
  rw [h1] at h2
  exact h2
def hintOf : List (Nat × Hint) → Nat → Hint
  | [], _ => {}
  | (i, h) :: r, n => match Nat.beq i n with
    | true => h
    | false => hintOf r n
end Go.Lite
end

section
/-
  LITE 85: drawing regions, looked at as they run.
-/
set_option linter.unusedVariables false
set_option linter.unusedSimpArgs false
namespace Go.Lite
open Go

/-- The operations end, and P of what they did. -/
def WT (cx : Cx) (h : Hint) (F : CallF) (nt : Nat) (ops : Array Oper) (i : Nat) (prs : List (List Nat)) (l : List Oper) (P : List Rec → St → Prop) (s : St) : Prop := ∃ t s1, traceOps cx h F nt ops i prs l s = some (t, s1) ∧ P t s1

section
variable {cx : Cx} {h : Hint} {F : CallF} {nt : Nat} {ops : Array Oper} {l : List Oper} {P : List Rec → St → Prop} {sl : Slots} {H : Heap} {nx nid i : Nat} {prs : List (List Nat)} {ty : TypeId} {pos : String} {af : Array Edge} {d : Option Nat} {g : Option (Nat × Bool)} {pr : List Nat}

theorem wt_end (hq : P [] ⟨sl, H, nx⟩) : WT cx h F nt ops i prs [] P ⟨sl, H, nx⟩ := ⟨[], _, rfl, hq⟩
theorem dOk_match {nt : Nat} {d : Option Nat} (hd : dOk nt d = true) : (match d with | some d => decide (d < nt) | none => true) = true := by
  cases d with
  | none => rfl
  | some d => exact hd
theorem tT {op : Op} {v : AV} {H' : Heap} (he : evalOp cx h F ⟨d, op, ty, pos, af, none⟩ ⟨sl, H, nx⟩ nx = some ⟨v, H'⟩) (hd : dOk nt d = true) (hp : predsOf prs i af.toList = some pr) (hq : WT cx h F nt ops (i + 1) (prs ++ [pr]) l (fun t s1 => P (⟨⟨d, op, ty, pos, af, none⟩, true, ⟨sl, H, nx⟩, v, H', pr⟩ :: t) s1) ⟨putD d v sl, H', nx + 8⟩) :
    WT cx h F nt ops i prs (⟨d, op, ty, pos, af, none⟩ :: l) P ⟨sl, H, nx⟩ := by
  obtain ⟨t, s1, h1, h2⟩ := hq
  refine ⟨_ :: t, s1, ?_, h2⟩
  cases d with
  | none => simp only [traceOps, asked, hp, he, h1]
  | some d =>
    have hd : decide (d < nt) = true := hd
    simp only [traceOps, hd, asked, hp, he, h1]
theorem tTy {op : Op} {v : AV} {H' : Heap} {j : Nat} {want b : Bool} {q : Nat} (hj : (ops[j]?).bind (·.dst) = some q) (hs : sl q = .data .bool b) (hb : b = want) (he : evalOp cx h F ⟨d, op, ty, pos, af, some (j, want)⟩ ⟨sl, H, nx⟩ nx = some ⟨v, H'⟩) (hd : dOk nt d = true) (hp : predsOf prs i af.toList = some pr) (hq : WT cx h F nt ops (i + 1) (prs ++ [pr]) l (fun t s1 => P (⟨⟨d, op, ty, pos, af, some (j, want)⟩, true, ⟨sl, H, nx⟩, v, H', pr⟩ :: t) s1) ⟨putD d v sl, H', nx + 8⟩) :
    WT cx h F nt ops i prs (⟨d, op, ty, pos, af, some (j, want)⟩ :: l) P ⟨sl, H, nx⟩ := by
  obtain ⟨t, s1, h1, h2⟩ := hq
  subst hb
  refine ⟨_ :: t, s1, ?_, h2⟩
  have hb : (b == b) = true := by cases b <;> rfl
  have ha : asked ops sl ⟨d, op, ty, pos, af, some (j, b)⟩ = some (some true) := by simp only [asked, hj, hs, hb]
  cases d with
  | none => simp only [traceOps, ha, hp, ite', he, h1]
  | some d =>
    have hd : decide (d < nt) = true := hd
    simp only [traceOps, hd, ha, hp, ite', he, h1]
theorem tTn {op : Op} {j : Nat} {want b : Bool} {q : Nat} (hj : (ops[j]?).bind (·.dst) = some q) (hs : sl q = .data .bool b) (hb : b = !want) (hd : dOk nt d = true) (hp : predsOf prs i af.toList = some pr) (hq : WT cx h F nt ops (i + 1) (prs ++ [pr]) l (fun t s1 => P (⟨⟨d, op, ty, pos, af, some (j, want)⟩, false, ⟨sl, H, nx⟩, .skip, H, pr⟩ :: t) s1) ⟨putD d .skip sl, H, nx + 8⟩) :
    WT cx h F nt ops i prs (⟨d, op, ty, pos, af, some (j, want)⟩ :: l) P ⟨sl, H, nx⟩ := by
  obtain ⟨t, s1, h1, h2⟩ := hq
  subst hb
  refine ⟨_ :: t, s1, ?_, h2⟩
  have ha : asked ops sl ⟨d, op, ty, pos, af, some (j, want)⟩ = some (some false) := by
    simp only [asked, hj, hs]; cases want <;> rfl
  cases d with
  | none => simp only [traceOps, ha, hp, ite', h1]
  | some d =>
    have hd : decide (d < nt) = true := hd
    simp only [traceOps, hd, ha, hp, ite', h1]
theorem tTs {op : Op} {j : Nat} {want : Bool} {q : Nat} (hj : (ops[j]?).bind (·.dst) = some q) (hs : sl q = .skip) (hd : dOk nt d = true) (hp : predsOf prs i af.toList = some pr) (hq : WT cx h F nt ops (i + 1) (prs ++ [pr]) l (fun t s1 => P (⟨⟨d, op, ty, pos, af, some (j, want)⟩, false, ⟨sl, H, nx⟩, .skip, H, pr⟩ :: t) s1) ⟨putD d .skip sl, H, nx + 8⟩) :
    WT cx h F nt ops i prs (⟨d, op, ty, pos, af, some (j, want)⟩ :: l) P ⟨sl, H, nx⟩ := by
  obtain ⟨t, s1, h1, h2⟩ := hq
  refine ⟨_ :: t, s1, ?_, h2⟩
  have ha : asked ops sl ⟨d, op, ty, pos, af, some (j, want)⟩ = some (some false) := by simp only [asked, hj, hs]
  cases d with
  | none => simp only [traceOps, ha, hp, ite', h1]
  | some d =>
    have hd : decide (d < nt) = true := hd
    simp only [traceOps, hd, ha, hp, ite', h1]

/-! ### The same value -/
theorem listSame_refl {α : Type} {f : α → α → Bool} (hf : ∀ a, f a a = true) : ∀ l, listSame f l l = true
  | [] => rfl
  | a :: l => by simp only [listSame, hf, listSame_refl hf l, Bool.and_self]
theorem K.same_refl (k : K) : ∀ d : k.D, k.same d d = true := by
  induction k with
  | int _ => intro d; exact beq_self_eq_true (α := Int) d
  | bool => intro d; exact beq_self_eq_true (α := Bool) d
  | str => intro d; exact beq_self_eq_true (ByteArray.toList d)
  | unit => intro d; rfl
  | slice k ih => intro d; exact listSame_refl ih d
  | array n k ih => intro d; exact listSame_refl ih d
  | pair a b iha ihb => intro d; simp only [K.same, iha, ihb, Bool.and_self]
theorem K.same?_refl (k : K) (d : k.D) : K.same? k k d d = true := by
  unfold K.same? K.cast?
  rw [dif_pos rfl]
  exact K.same_refl k d
mutual
def AV.plain : AV → Bool
  | .data .. | .lit .. | .at .. | .nilS _ | .ptr .. | .sl .. | .el .. | .mp _ => true
  | .fn _ l | .agg l => plainAll l
  | _ => false
termination_by structural v => v
def plainAll : List AV → Bool
  | [] => true
  | v :: l => v.plain && plainAll l
termination_by structural l => l
end
mutual
theorem AV.same_refl : (v : AV) → v.plain = true → v.same v = true
  | .data k d, _ => K.same?_refl k d
  | .lit k d, _ => K.same?_refl (.slice k) d
  | .at k d, _ => K.same?_refl k d
  | .nilS t, _ => by simp [AV.same]
  | .ptr .., _ => by simp [AV.same]
  | .sl .., _ => by simp [AV.same]
  | .el .., _ => by simp [AV.same]
  | .mp _, _ => by simp [AV.same]
  | .fn f l, h => by simp only [AV.plain] at h; simp only [AV.same, sameAll_refl l h, beq_self_eq_true, Bool.and_self]
  | .agg l, h => by simp only [AV.plain] at h; simp only [AV.same, sameAll_refl l h]
  | .undef, h => by cases h
  | .skip, h => by cases h
  | .nilV _, h => by cases h
  | .tuple _, h => by cases h
  | .it _, h => by cases h
  | .iface .., h => by cases h
theorem sameAll_refl : (l : List AV) → plainAll l = true → sameAll l l = true
  | [], _ => rfl
  | v :: l, h => by
    simp only [plainAll, Bool.and_eq_true] at h
    simp only [sameAll, AV.same_refl v h.1, sameAll_refl l h.2, Bool.and_self]
end

/-! ### Pairs -/
theorem pkN {i : Nat} : pairsOk cx h F ops i [] = true := rfl
theorem pkC {i : Nat} {a : Rec} {t : List Rec} (h1 : t.all (fun b => b.pr.contains i || pairOk cx h F ops a b) = true) (h2 : pairsOk cx h F ops (i + 1) t = true) : pairsOk cx h F ops i (a :: t) = true := by
  simp only [pairsOk, h1, h2, Bool.and_self]
theorem roN {i : Nat} {a : Rec} : ([] : List Rec).all (fun b => b.pr.contains i || pairOk cx h F ops a b) = true := rfl
/-- One is ordered ahead, or they don't meet. -/
theorem roC {i : Nat} {a b : Rec} {t : List Rec} (h1 : (b.pr.contains i || pairOk cx h F ops a b) = true) (h2 : t.all (fun b => b.pr.contains i || pairOk cx h F ops a b) = true) : (b :: t).all (fun b => b.pr.contains i || pairOk cx h F ops a b) = true := by
  simp only [List.all_cons, h1, h2, Bool.and_self]
/-- A read behind a change reads as it would ahead of it. -/
theorem roR {i : Nat} {a b : Rec} {t : List Rec} {H' : Heap} (hap : a.o.apart ops b.o = true) (ha : a.cls cx h = .chg) (hb : b.cls cx h = .read) (hid : (operIds cx b.pre.slots b.o).all (fun q => decide (q < a.pre.next)) = true) (hv : b.v.plain = true) (he : evalOp cx h F b.o ⟨b.pre.slots, a.pre.heap, 0⟩ b.pre.next = some ⟨b.v, H'⟩) (h2 : t.all (fun b => b.pr.contains i || pairOk cx h F ops a b) = true) : (b :: t).all (fun b => b.pr.contains i || pairOk cx h F ops a b) = true := by
  refine roC ?_ h2
  have : pairOk cx h F ops a b = true := by
    unfold pairOk
    simp only [hap, ha, hb, hid, he, resIs, AV.same_refl _ hv, Bool.and_self]
  rw [this, Bool.or_true]
/-- A read ahead of a change reads as it would behind it. -/
theorem roW {i : Nat} {a b : Rec} {t : List Rec} {H' : Heap} (hap : a.o.apart ops b.o = true) (ha : a.cls cx h = .read) (hb : b.cls cx h = .chg) (hv : a.v.plain = true) (he : evalOp cx h F a.o ⟨a.pre.slots, b.H, 0⟩ a.pre.next = some ⟨a.v, H'⟩) (h2 : t.all (fun b => b.pr.contains i || pairOk cx h F ops a b) = true) : (b :: t).all (fun b => b.pr.contains i || pairOk cx h F ops a b) = true := by
  refine roC ?_ h2
  have : pairOk cx h F ops a b = true := by
    unfold pairOk
    simp only [hap, ha, hb, he, resIs, AV.same_refl _ hv, Bool.and_self]
  rw [this, Bool.or_true]
end

section
variable {cx : Cx} {h : Hint} {F : CallF} {nt : Nat} {Q : Ex → St → Prop} {s : St}
theorem wt_drawn {ops : Array Oper} {M : St → Prop} {s0 : St} (hq : WT cx h F nt ops 0 [] ops.toList (fun t s1 => pairsOk cx h F ops 0 t = true ∧ M s1) s0) : ∃ s1, evalDrawn cx h F nt ops s0 = some s1 ∧ M s1 := by
  obtain ⟨t, s1, h1, h2, h3⟩ := hq
  refine ⟨s1, ?_, h3⟩
  unfold evalDrawn
  simp only [h1, h2, chk]
/-- A drawing region. -/
theorem wX {id} {ops : Array Oper} {b : Code} {s0 : St} (hc : cutAt h h.pre id s = some s0) (hp : (cutFor h.post id).isNone = true) (hq : WT cx h F nt ops 0 [] ops.toList (fun t s1 => pairsOk cx h F ops 0 t = true ∧ WP cx h F nt b Q s1) s0) : WP cx h F nt (.seq (.region id ops true) b) Q s := by
  obtain ⟨s1, he, hq⟩ := wt_drawn hq
  refine wp_seq ⟨0, .norm, s1, ?_, hq⟩
  have : cutAt h h.post id s1 = some s1 := by unfold cutAt; rw [Option.isNone_iff_eq_none.1 hp]
  simp only [evalCode, hc, he, this]
theorem wX1 {id} {ops : Array Oper} {s0 : St} (hc : cutAt h h.pre id s = some s0) (hp : (cutFor h.post id).isNone = true) (hq : WT cx h F nt ops 0 [] ops.toList (fun t s1 => pairsOk cx h F ops 0 t = true ∧ Q .norm s1) s0) : WP cx h F nt (.region id ops true) Q s := by
  obtain ⟨s1, he, hq⟩ := wt_drawn hq
  refine ⟨0, .norm, s1, ?_, hq⟩
  have : cutAt h h.post id s1 = some s1 := by unfold cutAt; rw [Option.isNone_iff_eq_none.1 hp]
  simp only [evalCode, hc, he, this]
theorem wXq {id} {ops : Array Oper} {b : Code} {s0 : St} {M : St → Prop} (hc : cutAt h h.pre id s = some s0) (hq : WT cx h F nt ops 0 [] ops.toList (fun t s1 => pairsOk cx h F ops 0 t = true ∧ ∃ s2, cutAt h h.post id s1 = some s2 ∧ M s2) s0) (hb : ∀ s2, M s2 → WP cx h F nt b Q s2) : WP cx h F nt (.seq (.region id ops true) b) Q s := by
  obtain ⟨s1, he, s2, hp, hm⟩ := wt_drawn hq
  refine wp_seq ⟨0, .norm, s2, ?_, hb s2 hm⟩
  simp only [evalCode, hc, he, hp]
theorem wXq1 {id} {ops : Array Oper} {s0 : St} {M : St → Prop} (hc : cutAt h h.pre id s = some s0) (hq : WT cx h F nt ops 0 [] ops.toList (fun t s1 => pairsOk cx h F ops 0 t = true ∧ ∃ s2, cutAt h h.post id s1 = some s2 ∧ M s2) s0) (hb : ∀ s2, M s2 → Q .norm s2) : WP cx h F nt (.region id ops true) Q s := by
  obtain ⟨s1, he, s2, hp, hm⟩ := wt_drawn hq
  refine ⟨0, .norm, s2, ?_, hb s2 hm⟩
  simp only [evalCode, hc, he, hp]
end
end Go.Lite
end

section
set_option linter.unusedVariables false
namespace Go.Lite.Fam
open Go Go.Lite

abbrev T_api_Leaf := Int × Int × Unit
def Z_api_Leaf : T_api_Leaf := ((0 : Int), (0 : Int), ())
abbrev T_api_Branch := Int × Int × Int × Int × Unit
def Z_api_Branch : T_api_Branch := ((0 : Int), (0 : Int), (0 : Int), (0 : Int), ())
abbrev T_api_TreeAutomaton := Int × Int × (List Int) × (List T_api_Leaf) × (List T_api_Branch) × Unit
def Z_api_TreeAutomaton : T_api_TreeAutomaton := ((0 : Int), (0 : Int), ([] : List Int), ([] : List T_api_Leaf), ([] : List T_api_Branch), ())
abbrev T_familychecklaw07_Tree := (List Int) × (List Int) × Unit
def Z_familychecklaw07_Tree : T_familychecklaw07_Tree := (([] : List Int), ([] : List Int), ())
abbrev T_tree_growth := (List Int) × (List Int) × (List T_api_Branch) × Unit
def Z_tree_growth : T_tree_growth := (([] : List Int), ([] : List Int), ([] : List T_api_Branch), ())

def law07_known : Option Bool := some true
noncomputable def law07_Big_q1 (x2 : Bool) : Option (Bool) :=
  some x2
noncomputable def law07_Big (x0 : T_api_TreeAutomaton) : Option (Bool) :=
  if (decide (((x0.2.2.1.length : Nat) : Int) > (300 : Int))) = true then
    law07_Big_q1 true
  else
    if (decide (((x0.2.2.2.1.length : Nat) : Int) > (300 : Int))) = true then law07_Big_q1 true else law07_Big_q1 (decide (((x0.2.2.2.2.1.length : Nat) : Int) > (800 : Int)))
noncomputable def law07_long_q1 (x2 : Bool) : Option (Bool) :=
  some x2
noncomputable def law07_long (x0 : T_familychecklaw07_Tree) : Option (Bool) :=
  if (decide (((x0.1.length : Nat) : Int) > (60 : Int))) = true then law07_long_q1 true else law07_long_q1 (decide (((x0.2.1.length : Nat) : Int) > (60 : Int)))
noncomputable def tree_Validate_2_q1 (x1_0 : Int) (x1_1 : Int) (x1_2 : (List Int)) (x1_3 : (List T_api_Leaf)) (x1_4 : (List T_api_Branch)) (x3 : Bool) : Option (Bool) :=
  some x3
noncomputable def tree_Validate_2 (x0 : Int) (x1_0 : Int) (x1_1 : Int) (x1_2 : (List Int)) (x1_3 : (List T_api_Leaf)) (x1_4 : (List T_api_Branch)) : Option (Bool) :=
  if (decide ((0 : Int) ≤ x0)) = true then tree_Validate_2_q1 x1_0 x1_1 x1_2 x1_3 x1_4 (decide (x0 < x1_1)) else tree_Validate_2_q1 x1_0 x1_1 x1_2 x1_3 x1_4 false
noncomputable def tree_Validate_1_q1 (x1_0 : Int) (x1_1 : Int) (x1_2 : (List Int)) (x1_3 : (List T_api_Leaf)) (x1_4 : (List T_api_Branch)) (x3 : Bool) : Option (Bool) :=
  some x3
noncomputable def tree_Validate_1 (x0 : Int) (x1_0 : Int) (x1_1 : Int) (x1_2 : (List Int)) (x1_3 : (List T_api_Leaf)) (x1_4 : (List T_api_Branch)) : Option (Bool) :=
  if (decide ((0 : Int) ≤ x0)) = true then tree_Validate_1_q1 x1_0 x1_1 x1_2 x1_3 x1_4 (decide (x0 < x1_0)) else tree_Validate_1_q1 x1_0 x1_1 x1_2 x1_3 x1_4 false
noncomputable def tree_Validate_l6 (x0 : T_api_TreeAutomaton) : Int → Option ((Int) ⊕ ((Unit) ⊕ (Int))) := fun x34 =>
  if (decide (x34 < ((x0.2.2.1.length : Nat) : Int))) = true then
    gd (0 ≤ x34 ∧ x34 < ((x0.2.2.1.length : Nat) : Int)) (
      (tree_Validate_2 (x0.2.2.1.getD x34.toNat (0 : Int)) x0.1 x0.2.1 x0.2.2.1 x0.2.2.2.1 x0.2.2.2.2.1).bind fun r49 =>
        if (!r49) = true then some (.inr (.inr ((1 : Int)))) else some (.inl (IntKind.i64.wrap (x34 + (1 : Int)))))
  else
    some (.inr (.inl ()))
noncomputable def tree_Validate_q14 (x0 : T_api_TreeAutomaton) (x46 : Int) (x61 : Bool) : Option ((Int) ⊕ ((Unit) ⊕ (Int))) :=
  if x61 = true then some (.inr (.inr ((1 : Int)))) else some (.inl (IntKind.i64.wrap (x46 + (1 : Int))))
noncomputable def tree_Validate_l12 (x0 : T_api_TreeAutomaton) : Int → Option ((Int) ⊕ ((Unit) ⊕ (Int))) := fun x46 =>
  if (decide (x46 < ((x0.2.2.2.1.length : Nat) : Int))) = true then
    gd (0 ≤ x46 ∧ x46 < ((x0.2.2.2.1.length : Nat) : Int)) (
      (tree_Validate_1 ((x0.2.2.2.1.getD x46.toNat (Z_api_Leaf)).1) x0.1 x0.2.1 x0.2.2.1 x0.2.2.2.1 x0.2.2.2.2.1).bind fun r65 =>
        if (!r65) = true then
          tree_Validate_q14 x0 x46 true
        else
          (tree_Validate_2 ((x0.2.2.2.1.getD x46.toNat (Z_api_Leaf)).2.1) x0.1 x0.2.1 x0.2.2.1 x0.2.2.2.1 x0.2.2.2.2.1).bind fun r113 =>
            tree_Validate_q14 x0 x46 (!r113))
  else
    some (.inr (.inl ()))
noncomputable def tree_Validate_q20 (x0 : T_api_TreeAutomaton) (x66 : Int) (x95 : Bool) : Option ((Int) ⊕ ((Unit) ⊕ (Int))) :=
  if x95 = true then some (.inr (.inr ((1 : Int)))) else some (.inl (IntKind.i64.wrap (x66 + (1 : Int))))
noncomputable def tree_Validate_l18 (x0 : T_api_TreeAutomaton) : Int → Option ((Int) ⊕ ((Unit) ⊕ (Int))) := fun x66 =>
  if (decide (x66 < ((x0.2.2.2.2.1.length : Nat) : Int))) = true then
    gd (0 ≤ x66 ∧ x66 < ((x0.2.2.2.2.1.length : Nat) : Int)) (
      (tree_Validate_1 ((x0.2.2.2.2.1.getD x66.toNat (Z_api_Branch)).1) x0.1 x0.2.1 x0.2.2.1 x0.2.2.2.1 x0.2.2.2.2.1).bind fun r65b =>
        if (!r65b) = true then
          tree_Validate_q20 x0 x66 true
        else
          (tree_Validate_2 ((x0.2.2.2.2.1.getD x66.toNat (Z_api_Branch)).2.1) x0.1 x0.2.1 x0.2.2.1 x0.2.2.2.1 x0.2.2.2.2.1).bind fun r113b =>
            if (!r113b) = true then
              tree_Validate_q20 x0 x66 true
            else
              (tree_Validate_2 ((x0.2.2.2.2.1.getD x66.toNat (Z_api_Branch)).2.2.1) x0.1 x0.2.1 x0.2.2.1 x0.2.2.2.1 x0.2.2.2.2.1).bind fun r169 =>
                if (!r169) = true then
                  tree_Validate_q20 x0 x66 true
                else
                  (tree_Validate_2 ((x0.2.2.2.2.1.getD x66.toNat (Z_api_Branch)).2.2.2.1) x0.1 x0.2.1 x0.2.2.1 x0.2.2.2.1 x0.2.2.2.2.1).bind fun r225 =>
                    tree_Validate_q20 x0 x66 (!r225))
  else
    some (.inr (.inl ()))
noncomputable def tree_Validate_q1 (x0 : T_api_TreeAutomaton) (x28 : Bool) : Option (Int) :=
  if x28 = true then
    some (1 : Int)
  else
    (loopP (tree_Validate_l6 x0) (0 : Int)).bind fun e => match e with
    | (.inl _) =>
      (loopP (tree_Validate_l12 x0) (0 : Int)).bind fun e => match e with
      | (.inl _) =>
        (loopP (tree_Validate_l18 x0) (0 : Int)).bind fun e => match e with
        | (.inl _) =>
          some (0 : Int)
        | (.inr r0c) =>
          some r0c
      | (.inr r0b) =>
        some r0b
    | (.inr r0) =>
      some r0
noncomputable def tree_Validate (x0 : T_api_TreeAutomaton) : Option (Int) :=
  if (decide (x0.1 < (1 : Int))) = true then
    tree_Validate_q1 x0 true
  else
    if (decide (x0.1 > (8 : Int))) = true then
      tree_Validate_q1 x0 true
    else
      if (decide (x0.2.1 < (0 : Int))) = true then tree_Validate_q1 x0 true else tree_Validate_q1 x0 (decide (x0.2.1 > (64 : Int)))
noncomputable def tree_ValidTree_q7 (x0 : Int) (x1 : (List Int)) (x2 : (List Int)) (x7 : Int) (x27 : Int) (x56 : Bool) : Option ((Int × Int) ⊕ ((Int) ⊕ (Bool))) :=
  if x56 = true then
    some (.inr (.inr (false)))
  else
    some (.inl ((IntKind.i64.wrap (x7 + (IntKind.i64.wrap ((x1.getD x27.toNat (0 : Int)) - (1 : Int))))), (IntKind.i64.wrap (x27 + (1 : Int)))))
noncomputable def tree_ValidTree_l5 (x0 : Int) (x1 : (List Int)) (x2 : (List Int)) : (Int × Int) → Option ((Int × Int) ⊕ ((Int) ⊕ (Bool))) := fun (x7, x27) =>
  if (decide (x27 < ((x1.length : Nat) : Int))) = true then
    gd (0 ≤ x27 ∧ x27 < ((x1.length : Nat) : Int)) (
      if (x7 == (0 : Int)) = true then
        tree_ValidTree_q7 x0 x1 x2 x7 x27 true
      else
        if ((x1.getD x27.toNat (0 : Int)) != (0 : Int)) = true then
          if ((x1.getD x27.toNat (0 : Int)) != (2 : Int)) = true then
            tree_ValidTree_q7 x0 x1 x2 x7 x27 true
          else
            gd (0 ≤ x27 ∧ x27 < ((x2.length : Nat) : Int)) (
              if (decide ((x2.getD x27.toNat (0 : Int)) < (0 : Int))) = true then tree_ValidTree_q7 x0 x1 x2 x7 x27 true else tree_ValidTree_q7 x0 x1 x2 x7 x27 (decide ((x2.getD x27.toNat (0 : Int)) ≥ x0)))
        else
          gd (0 ≤ x27 ∧ x27 < ((x2.length : Nat) : Int)) (
            if (decide ((x2.getD x27.toNat (0 : Int)) < (0 : Int))) = true then tree_ValidTree_q7 x0 x1 x2 x7 x27 true else tree_ValidTree_q7 x0 x1 x2 x7 x27 (decide ((x2.getD x27.toNat (0 : Int)) ≥ x0))))
  else
    some (.inr (.inl x7))
noncomputable def tree_ValidTree_q1 (x0 : Int) (x1 : (List Int)) (x2 : (List Int)) (x24 : Bool) : Option (Bool) :=
  if x24 = true then
    some false
  else
    (loopP (tree_ValidTree_l5 x0 x1 x2) ((1 : Int), (0 : Int))).bind fun e => match e with
    | (.inl x7b) =>
      some (x7b == (0 : Int))
    | (.inr r0) =>
      some r0
noncomputable def tree_ValidTree (x0 : Int) (x1 : (List Int)) (x2 : (List Int)) : Option (Bool) :=
  if (decide (((x1.length : Nat) : Int) < (1 : Int))) = true then
    tree_ValidTree_q1 x0 x1 x2 true
  else
    if (decide (((x1.length : Nat) : Int) > (4095 : Int))) = true then tree_ValidTree_q1 x0 x1 x2 true else tree_ValidTree_q1 x0 x1 x2 (((x2.length : Nat) : Int) != ((x1.length : Nat) : Int))
noncomputable def tree_leafSet_j7 (x0 : T_api_TreeAutomaton) (x1 : Int) (x11 : Int) (x5b : Int) : Option ((Int × Int) ⊕ (Int)) :=
  some (.inl (x5b, (IntKind.i64.wrap (x11 + (1 : Int)))))
noncomputable def tree_leafSet_l3 (x0 : T_api_TreeAutomaton) (x1 : Int) : (Int × Int) → Option ((Int × Int) ⊕ (Int)) := fun (x5, x11) =>
  if (decide (x11 < ((x0.2.2.2.1.length : Nat) : Int))) = true then
    gd (0 ≤ x11 ∧ x11 < ((x0.2.2.2.1.length : Nat) : Int)) (
      if ((x0.2.2.2.1.getD x11.toNat (Z_api_Leaf)).1 == x1) = true then
        gd (0 ≤ (x0.2.2.2.1.getD x11.toNat (Z_api_Leaf)).2.1) (tree_leafSet_j7 x0 x1 x11 (bitsInt .or .u64 x5 (IntKind.u64.wrap ((1 : Int) * 2 ^ min ((x0.2.2.2.1.getD x11.toNat (Z_api_Leaf)).2.1).toNat 64))))
      else
        tree_leafSet_j7 x0 x1 x11 x5)
  else
    some (.inr x5)
noncomputable def tree_leafSet (x0 : T_api_TreeAutomaton) (x1 : Int) : Option (Int) :=
  (loopP (tree_leafSet_l3 x0 x1) ((0 : Int), (0 : Int))).bind fun x5c =>
    some x5c
noncomputable def tree_branchSet_j7 (x0 : T_api_TreeAutomaton) (x1 : Int) (x2 : Int) (x3 : Int) (x15 : Int) (x9b : Int) : Option ((Int × Int) ⊕ (Int)) :=
  some (.inl (x9b, (IntKind.i64.wrap (x15 + (1 : Int)))))
noncomputable def tree_branchSet_q5 (x0 : T_api_TreeAutomaton) (x1 : Int) (x2 : Int) (x3 : Int) (x9 : Int) (x15 : Int) (x38 : Bool) : Option ((Int × Int) ⊕ (Int)) :=
  if x38 = true then
    gd (0 ≤ (x0.2.2.2.2.1.getD x15.toNat (Z_api_Branch)).2.2.2.1) (
      tree_branchSet_j7 x0 x1 x2 x3 x15 (bitsInt .or .u64 x9 (IntKind.u64.wrap ((1 : Int) * 2 ^ min ((x0.2.2.2.2.1.getD x15.toNat (Z_api_Branch)).2.2.2.1).toNat 64))))
  else
    tree_branchSet_j7 x0 x1 x2 x3 x15 x9
noncomputable def tree_branchSet_l3 (x0 : T_api_TreeAutomaton) (x1 : Int) (x2 : Int) (x3 : Int) : (Int × Int) → Option ((Int × Int) ⊕ (Int)) := fun (x9, x15) =>
  if (decide (x15 < ((x0.2.2.2.2.1.length : Nat) : Int))) = true then
    gd (0 ≤ x15 ∧ x15 < ((x0.2.2.2.2.1.length : Nat) : Int)) (
      if ((x0.2.2.2.2.1.getD x15.toNat (Z_api_Branch)).1 == x1) = true then
        gd (0 ≤ (x0.2.2.2.2.1.getD x15.toNat (Z_api_Branch)).2.1) (
          if ((bitsInt .and .u64 (x2.fdiv (2 ^ min ((x0.2.2.2.2.1.getD x15.toNat (Z_api_Branch)).2.1).toNat 64)) (1 : Int)) == (1 : Int)) = true then
            gd (0 ≤ (x0.2.2.2.2.1.getD x15.toNat (Z_api_Branch)).2.2.1) (
              tree_branchSet_q5 x0 x1 x2 x3 x9 x15 ((bitsInt .and .u64 (x3.fdiv (2 ^ min ((x0.2.2.2.2.1.getD x15.toNat (Z_api_Branch)).2.2.1).toNat 64)) (1 : Int)) == (1 : Int)))
          else
            tree_branchSet_q5 x0 x1 x2 x3 x9 x15 false)
      else
        tree_branchSet_q5 x0 x1 x2 x3 x9 x15 false)
  else
    some (.inr x9)
noncomputable def tree_branchSet (x0 : T_api_TreeAutomaton) (x1 : Int) (x2 : Int) (x3 : Int) : Option (Int) :=
  (loopP (tree_branchSet_l3 x0 x1 x2 x3) ((0 : Int), (0 : Int))).bind fun x9c =>
    some x9c
noncomputable def tree_Accepts_j16 (x0 : T_api_TreeAutomaton) (x1 : (List Int)) (x2 : (List Int)) (x9 : (List Int)) (x10 : Int) (x9n : Int) (x11 : Int) : Option (((List Int) × Int) ⊕ ((List Int))) :=
  gd (((x9.take x9n.toNat).length + [x11].length) * 8 ≤ 1073741824 ∧ (x9.take x9n.toNat).length + [x11].length ≤ 1073741824) (some (.inl (((x9.take x9n.toNat) ++ [x11]), (IntKind.i64.wrap (x10 - (1 : Int))))))
noncomputable def tree_Accepts_l8 (x0 : T_api_TreeAutomaton) (x1 : (List Int)) (x2 : (List Int)) : ((List Int) × Int) → Option (((List Int) × Int) ⊕ ((List Int))) := fun (x9, x10) =>
  if (decide (x10 ≥ (0 : Int))) = true then
    gd (0 ≤ x10 ∧ x10 < ((x1.length : Nat) : Int)) (
      if ((x1.getD x10.toNat (0 : Int)) == (0 : Int)) = true then
        gd (0 ≤ x10 ∧ x10 < ((x2.length : Nat) : Int)) (
          (tree_leafSet x0 (x2.getD x10.toNat (0 : Int))).bind fun r106 =>
            tree_Accepts_j16 x0 x1 x2 x9 x10 ((x9.length : Nat) : Int) r106)
      else
        gd (0 ≤ x10 ∧ x10 < ((x2.length : Nat) : Int)) (
          gd (0 ≤ (IntKind.i64.wrap (((x9.length : Nat) : Int) - (1 : Int))) ∧ (IntKind.i64.wrap (((x9.length : Nat) : Int) - (1 : Int))) < ((x9.length : Nat) : Int)) (
            gd (0 ≤ (IntKind.i64.wrap (((x9.length : Nat) : Int) - (2 : Int))) ∧ (IntKind.i64.wrap (((x9.length : Nat) : Int) - (2 : Int))) < ((x9.length : Nat) : Int)) (
              (tree_branchSet x0 (x2.getD x10.toNat (0 : Int)) (x9.getD (IntKind.i64.wrap (((x9.length : Nat) : Int) - (1 : Int))).toNat (0 : Int)) (x9.getD (IntKind.i64.wrap (((x9.length : Nat) : Int) - (2 : Int))).toNat (0 : Int))).bind fun r210 =>
                gd (0 ≤ (IntKind.i64.wrap (((x9.length : Nat) : Int) - (2 : Int))) ∧ (IntKind.i64.wrap (((x9.length : Nat) : Int) - (2 : Int))) ≤ ((x9.length : Nat) : Int)) (tree_Accepts_j16 x0 x1 x2 x9 x10 (IntKind.i64.wrap (((x9.length : Nat) : Int) - (2 : Int))) r210)))))
  else
    some (.inr x9)
noncomputable def tree_Accepts_l18 (x0 : T_api_TreeAutomaton) (x9b : (List Int)) : Int → Option ((Int) ⊕ ((Unit) ⊕ (Bool × Int))) := fun x73 =>
  if (decide (x73 < ((x0.2.2.1.length : Nat) : Int))) = true then
    gd (0 ≤ x73 ∧ x73 < ((x0.2.2.1.length : Nat) : Int)) (
      gd (0 ≤ (0 : Int) ∧ (0 : Int) < ((x9b.length : Nat) : Int)) (
        gd (0 ≤ (x0.2.2.1.getD x73.toNat (0 : Int))) (
          if ((bitsInt .and .u64 ((x9b.getD (0 : Int).toNat (0 : Int)).fdiv (2 ^ min (x0.2.2.1.getD x73.toNat (0 : Int)).toNat 64)) (1 : Int)) == (1 : Int)) = true then some (.inr (.inr ((true, (0 : Int))))) else some (.inl (IntKind.i64.wrap (x73 + (1 : Int)))))))
  else
    some (.inr (.inl ()))
noncomputable def tree_Accepts (x0 : T_api_TreeAutomaton) (x1 : (List Int)) (x2 : (List Int)) : Option (Bool × Int) :=
  (tree_Validate x0).bind fun r32 =>
    if (r32 != (0 : Int)) = true then
      some (false, r32)
    else
      (tree_ValidTree x0.1 x1 x2).bind fun r96 =>
        if (!r96) = true then
          some (false, (1 : Int))
        else
          (loopP (tree_Accepts_l8 x0 x1 x2) (([] : List Int), (IntKind.i64.wrap (((x1.length : Nat) : Int) - (1 : Int))))).bind fun x9b =>
            (loopP (tree_Accepts_l18 x0 x9b) (0 : Int)).bind fun e => match e with
            | (.inl _) =>
              some (false, (0 : Int))
            | (.inr r0) =>
              some r0
noncomputable def ref07_within_q1 (x6 : Bool) : Option (Bool) :=
  some x6
noncomputable def ref07_within (x0 : Int) (x1 : Int) (x2 : Int) : Option (Bool) :=
  if (decide (x0 ≥ x1)) = true then ref07_within_q1 (decide (x0 ≤ x2)) else ref07_within_q1 false
noncomputable def ref07_Validate_l4 (x0 : T_api_TreeAutomaton) : Int → Option ((Int) ⊕ ((Unit) ⊕ (Int))) := fun x3 =>
  if (decide (x3 < ((x0.2.2.1.length : Nat) : Int))) = true then
    gd (0 ≤ x3 ∧ x3 < ((x0.2.2.1.length : Nat) : Int)) (
      (ref07_within (x0.2.2.1.getD x3.toNat (0 : Int)) (0 : Int) (IntKind.i64.wrap (x0.2.1 - (1 : Int)))).bind fun r105 =>
        if (!r105) = true then some (.inr (.inr ((1 : Int)))) else some (.inl (IntKind.i64.wrap (x3 + (1 : Int)))))
  else
    some (.inr (.inl ()))
noncomputable def ref07_Validate_q11 (x0 : T_api_TreeAutomaton) (x4 : Int) (x64 : Bool) : Option ((Int) ⊕ ((Unit) ⊕ (Int))) :=
  if x64 = true then some (.inr (.inr ((1 : Int)))) else some (.inl (IntKind.i64.wrap (x4 + (1 : Int))))
noncomputable def ref07_Validate_l9 (x0 : T_api_TreeAutomaton) : Int → Option ((Int) ⊕ ((Unit) ⊕ (Int))) := fun x4 =>
  if (decide (x4 < ((x0.2.2.2.1.length : Nat) : Int))) = true then
    gd (0 ≤ x4 ∧ x4 < ((x0.2.2.2.1.length : Nat) : Int)) (
      (ref07_within ((x0.2.2.2.1.getD x4.toNat (Z_api_Leaf)).1) (0 : Int) (IntKind.i64.wrap (x0.1 - (1 : Int)))).bind fun r113 =>
        if (!r113) = true then
          ref07_Validate_q11 x0 x4 true
        else
          (ref07_within ((x0.2.2.2.1.getD x4.toNat (Z_api_Leaf)).2.1) (0 : Int) (IntKind.i64.wrap (x0.2.1 - (1 : Int)))).bind fun r209 =>
            ref07_Validate_q11 x0 x4 (!r209))
  else
    some (.inr (.inl ()))
noncomputable def ref07_Validate_q17 (x0 : T_api_TreeAutomaton) (x5 : Int) (x110 : Bool) : Option ((Int) ⊕ ((Unit) ⊕ (Int))) :=
  if x110 = true then some (.inr (.inr ((1 : Int)))) else some (.inl (IntKind.i64.wrap (x5 + (1 : Int))))
noncomputable def ref07_Validate_l14 (x0 : T_api_TreeAutomaton) : Int → Option ((Int) ⊕ ((Unit) ⊕ (Int))) := fun x5 =>
  if (decide (x5 < ((x0.2.2.2.2.1.length : Nat) : Int))) = true then
    gd (0 ≤ x5 ∧ x5 < ((x0.2.2.2.2.1.length : Nat) : Int)) (
      (ref07_within ((x0.2.2.2.2.1.getD x5.toNat (Z_api_Branch)).1) (0 : Int) (IntKind.i64.wrap (x0.1 - (1 : Int)))).bind fun r137 =>
        if (!r137) = true then
          ref07_Validate_q17 x0 x5 true
        else
          (ref07_within ((x0.2.2.2.2.1.getD x5.toNat (Z_api_Branch)).2.1) (0 : Int) (IntKind.i64.wrap (x0.2.1 - (1 : Int)))).bind fun r201 =>
            if (!r201) = true then
              ref07_Validate_q17 x0 x5 true
            else
              (ref07_within ((x0.2.2.2.2.1.getD x5.toNat (Z_api_Branch)).2.2.1) (0 : Int) (IntKind.i64.wrap (x0.2.1 - (1 : Int)))).bind fun r273 =>
                if (!r273) = true then
                  ref07_Validate_q17 x0 x5 true
                else
                  (ref07_within ((x0.2.2.2.2.1.getD x5.toNat (Z_api_Branch)).2.2.2.1) (0 : Int) (IntKind.i64.wrap (x0.2.1 - (1 : Int)))).bind fun r345 =>
                    ref07_Validate_q17 x0 x5 (!r345))
  else
    some (.inr (.inl ()))
noncomputable def ref07_Validate_q1 (x0 : T_api_TreeAutomaton) (x16 : Bool) : Option (Int) :=
  if x16 = true then
    some (1 : Int)
  else
    (loopP (ref07_Validate_l4 x0) (0 : Int)).bind fun e => match e with
    | (.inl _) =>
      (loopP (ref07_Validate_l9 x0) (0 : Int)).bind fun e => match e with
      | (.inl _) =>
        (loopP (ref07_Validate_l14 x0) (0 : Int)).bind fun e => match e with
        | (.inl _) =>
          some (0 : Int)
        | (.inr r0c) =>
          some r0c
      | (.inr r0b) =>
        some r0b
    | (.inr r0) =>
      some r0
noncomputable def ref07_Validate (x0 : T_api_TreeAutomaton) : Option (Int) :=
  (ref07_within x0.1 (1 : Int) (8 : Int)).bind fun r32 =>
    if (!r32) = true then
      ref07_Validate_q1 x0 true
    else
      (ref07_within x0.2.1 (0 : Int) (64 : Int)).bind fun r72 =>
        ref07_Validate_q1 x0 (!r72)
noncomputable def ref03_IsShape_q5 (x0 : (List Int)) (x3 : Int) (x4 : Int) (x26 : Bool) : Option ((Int × Int) ⊕ ((Int) ⊕ (Bool))) :=
  if x26 = true then
    some (.inr (.inr (false)))
  else
    gd (0 ≤ x4 ∧ x4 < ((x0.length : Nat) : Int)) (some (.inl ((IntKind.i64.wrap (x3 + (IntKind.i64.wrap ((x0.getD x4.toNat (0 : Int)) - (1 : Int))))), (IntKind.i64.wrap (x4 + (1 : Int))))))
noncomputable def ref03_IsShape_l3 (x0 : (List Int)) : (Int × Int) → Option ((Int × Int) ⊕ ((Int) ⊕ (Bool))) := fun (x3, x4) =>
  if (decide (x4 < ((x0.length : Nat) : Int))) = true then
    if (x3 == (0 : Int)) = true then
      ref03_IsShape_q5 x0 x3 x4 true
    else
      gd (0 ≤ x4 ∧ x4 < ((x0.length : Nat) : Int)) (
        if ((x0.getD x4.toNat (0 : Int)) != (0 : Int)) = true then ref03_IsShape_q5 x0 x3 x4 ((x0.getD x4.toNat (0 : Int)) != (2 : Int)) else ref03_IsShape_q5 x0 x3 x4 false)
  else
    some (.inr (.inl x3))
noncomputable def ref03_IsShape (x0 : (List Int)) : Option (Bool) :=
  (loopP (ref03_IsShape_l3 x0) ((1 : Int), (0 : Int))).bind fun e => match e with
  | (.inl x3b) =>
    some (x3b == (0 : Int))
  | (.inr r0) =>
    some r0
noncomputable def ref07_ValidTree_q6 (x0 : Int) (x2 : (List Int)) (x7 : Int) (x42 : Bool) : Option ((Int) ⊕ ((Unit) ⊕ (Bool))) :=
  if x42 = true then some (.inr (.inr (false))) else some (.inl (IntKind.i64.wrap (x7 + (1 : Int))))
noncomputable def ref07_ValidTree_l4 (x0 : Int) (x2 : (List Int)) : Int → Option ((Int) ⊕ ((Unit) ⊕ (Bool))) := fun x7 =>
  if (decide (x7 < ((x2.length : Nat) : Int))) = true then
    gd (0 ≤ x7 ∧ x7 < ((x2.length : Nat) : Int)) (
      if (decide ((x2.getD x7.toNat (0 : Int)) < (0 : Int))) = true then ref07_ValidTree_q6 x0 x2 x7 true else ref07_ValidTree_q6 x0 x2 x7 (decide ((x2.getD x7.toNat (0 : Int)) ≥ x0)))
  else
    some (.inr (.inl ()))
noncomputable def ref07_ValidTree_q1 (x0 : Int) (x2 : (List Int)) (x23 : Bool) : Option (Bool) :=
  if x23 = true then
    some false
  else
    (loopP (ref07_ValidTree_l4 x0 x2) (0 : Int)).bind fun e => match e with
    | (.inl _) =>
      some true
    | (.inr r0) =>
      some r0
noncomputable def ref07_ValidTree (x0 : Int) (x1 : (List Int)) (x2 : (List Int)) : Option (Bool) :=
  (ref07_within ((x1.length : Nat) : Int) (1 : Int) (4095 : Int)).bind fun r24 =>
    if (!r24) = true then
      ref07_ValidTree_q1 x0 x2 true
    else
      if (((x2.length : Nat) : Int) != ((x1.length : Nat) : Int)) = true then
        ref07_ValidTree_q1 x0 x2 true
      else
        (ref03_IsShape x1).bind fun r112 =>
          ref07_ValidTree_q1 x0 x2 (!r112)
noncomputable def ref07_leaf_j4 (x0 : T_api_TreeAutomaton) (x1 : Int) (x6 : Int) (x5b : (List Bool)) : Option (((List Bool) × Int) ⊕ ((List Bool))) :=
  some (.inl (x5b, (IntKind.i64.wrap (x6 + (1 : Int)))))
noncomputable def ref07_leaf_l3 (x0 : T_api_TreeAutomaton) (x1 : Int) : ((List Bool) × Int) → Option (((List Bool) × Int) ⊕ ((List Bool))) := fun (x5, x6) =>
  if (decide (x6 < ((x0.2.2.2.1.length : Nat) : Int))) = true then
    gd (0 ≤ x6 ∧ x6 < ((x0.2.2.2.1.length : Nat) : Int)) (
      if ((x0.2.2.2.1.getD x6.toNat (Z_api_Leaf)).1 == x1) = true then
        gd (0 ≤ (x0.2.2.2.1.getD x6.toNat (Z_api_Leaf)).2.1 ∧ (x0.2.2.2.1.getD x6.toNat (Z_api_Leaf)).2.1 < x0.2.1) (ref07_leaf_j4 x0 x1 x6 (x5.set ((x0.2.2.2.1.getD x6.toNat (Z_api_Leaf)).2.1).toNat true))
      else
        ref07_leaf_j4 x0 x1 x6 x5)
  else
    some (.inr x5)
noncomputable def ref07_leaf (x0 : T_api_TreeAutomaton) (x1 : Int) : Option ((List Bool)) :=
  gd (0 ≤ x0.2.1 ∧ x0.2.1 ≤ 1073741824 ∧ x0.2.1 * ((1 : Nat) : Int) ≤ 1073741824) (
    (loopP (ref07_leaf_l3 x0 x1) ((List.replicate x0.2.1.toNat false), (0 : Int))).bind fun x5c =>
      some (x5c.take x0.2.1.toNat))
noncomputable def ref07_branch_j4 (x0 : T_api_TreeAutomaton) (x1 : Int) (x2 : (List Bool)) (x3 : (List Bool)) (x10 : Int) (x9b : (List Bool)) : Option (((List Bool) × Int) ⊕ ((List Bool))) :=
  some (.inl (x9b, (IntKind.i64.wrap (x10 + (1 : Int)))))
noncomputable def ref07_branch_q6 (x0 : T_api_TreeAutomaton) (x1 : Int) (x2 : (List Bool)) (x3 : (List Bool)) (x9 : (List Bool)) (x10 : Int) (x44 : Bool) : Option (((List Bool) × Int) ⊕ ((List Bool))) :=
  if x44 = true then
    gd (0 ≤ (x0.2.2.2.2.1.getD x10.toNat (Z_api_Branch)).2.2.2.1 ∧ (x0.2.2.2.2.1.getD x10.toNat (Z_api_Branch)).2.2.2.1 < x0.2.1) (ref07_branch_j4 x0 x1 x2 x3 x10 (x9.set ((x0.2.2.2.2.1.getD x10.toNat (Z_api_Branch)).2.2.2.1).toNat true))
  else
    ref07_branch_j4 x0 x1 x2 x3 x10 x9
noncomputable def ref07_branch_l3 (x0 : T_api_TreeAutomaton) (x1 : Int) (x2 : (List Bool)) (x3 : (List Bool)) : ((List Bool) × Int) → Option (((List Bool) × Int) ⊕ ((List Bool))) := fun (x9, x10) =>
  if (decide (x10 < ((x0.2.2.2.2.1.length : Nat) : Int))) = true then
    gd (0 ≤ x10 ∧ x10 < ((x0.2.2.2.2.1.length : Nat) : Int)) (
      if ((x0.2.2.2.2.1.getD x10.toNat (Z_api_Branch)).1 == x1) = true then
        gd (0 ≤ (x0.2.2.2.2.1.getD x10.toNat (Z_api_Branch)).2.1 ∧ (x0.2.2.2.2.1.getD x10.toNat (Z_api_Branch)).2.1 < ((x2.length : Nat) : Int)) (
          if (x2.getD ((x0.2.2.2.2.1.getD x10.toNat (Z_api_Branch)).2.1).toNat false) = true then
            gd (0 ≤ (x0.2.2.2.2.1.getD x10.toNat (Z_api_Branch)).2.2.1 ∧ (x0.2.2.2.2.1.getD x10.toNat (Z_api_Branch)).2.2.1 < ((x3.length : Nat) : Int)) (ref07_branch_q6 x0 x1 x2 x3 x9 x10 (x3.getD ((x0.2.2.2.2.1.getD x10.toNat (Z_api_Branch)).2.2.1).toNat false))
          else
            ref07_branch_q6 x0 x1 x2 x3 x9 x10 false)
      else
        ref07_branch_q6 x0 x1 x2 x3 x9 x10 false)
  else
    some (.inr x9)
noncomputable def ref07_branch (x0 : T_api_TreeAutomaton) (x1 : Int) (x2 : (List Bool)) (x3 : (List Bool)) : Option ((List Bool)) :=
  gd (0 ≤ x0.2.1 ∧ x0.2.1 ≤ 1073741824 ∧ x0.2.1 * ((1 : Nat) : Int) ≤ 1073741824) (
    (loopP (ref07_branch_l3 x0 x1 x2 x3) ((List.replicate x0.2.1.toNat false), (0 : Int))).bind fun x9c =>
      some (x9c.take x0.2.1.toNat))
noncomputable def ref07_meets_l2 (x0 : (List Bool)) (x1 : (List Int)) : Int → Option ((Int) ⊕ ((Unit) ⊕ (Bool))) := fun x5 =>
  if (decide (x5 < ((x1.length : Nat) : Int))) = true then
    gd (0 ≤ x5 ∧ x5 < ((x1.length : Nat) : Int)) (
      gd (0 ≤ (x1.getD x5.toNat (0 : Int)) ∧ (x1.getD x5.toNat (0 : Int)) < ((x0.length : Nat) : Int)) (if (x0.getD (x1.getD x5.toNat (0 : Int)).toNat false) = true then some (.inr (.inr (true))) else some (.inl (IntKind.i64.wrap (x5 + (1 : Int))))))
  else
    some (.inr (.inl ()))
noncomputable def ref07_meets (x0 : (List Bool)) (x1 : (List Int)) : Option (Bool) :=
  (loopP (ref07_meets_l2 x0 x1) (0 : Int)).bind fun e => match e with
  | (.inl _) =>
    some false
  | (.inr r0) =>
    some r0
noncomputable def ref07_accepts_j4 (x0 : T_api_TreeAutomaton) (x1 : (List Int)) (x2 : (List Int)) (x8 : Int) (x7b : (List (List Bool))) : Option (((List (List Bool)) × Int) ⊕ ((List (List Bool)))) :=
  some (.inl (x7b, (IntKind.i64.wrap (x8 - (1 : Int)))))
noncomputable def ref07_accepts_l3 (x0 : T_api_TreeAutomaton) (x1 : (List Int)) (x2 : (List Int)) : ((List (List Bool)) × Int) → Option (((List (List Bool)) × Int) ⊕ ((List (List Bool)))) := fun (x7, x8) =>
  if (decide (x8 ≥ (0 : Int))) = true then
    gd (0 ≤ x8 ∧ x8 < ((x1.length : Nat) : Int)) (
      if ((x1.getD x8.toNat (0 : Int)) == (0 : Int)) = true then
        gd (0 ≤ x8 ∧ x8 < ((x2.length : Nat) : Int)) (
          (ref07_leaf x0 (x2.getD x8.toNat (0 : Int))).bind fun r106 =>
            gd ((x7.length + [r106].length) * 24 ≤ 1073741824 ∧ x7.length + [r106].length ≤ 1073741824) (ref07_accepts_j4 x0 x1 x2 x8 (x7 ++ [r106])))
      else
        gd (0 ≤ x8 ∧ x8 < ((x2.length : Nat) : Int)) (
          gd (0 ≤ (IntKind.i64.wrap (((x7.length : Nat) : Int) - (1 : Int))) ∧ (IntKind.i64.wrap (((x7.length : Nat) : Int) - (1 : Int))) < ((x7.length : Nat) : Int)) (
            gd (0 ≤ (IntKind.i64.wrap (((x7.length : Nat) : Int) - (2 : Int))) ∧ (IntKind.i64.wrap (((x7.length : Nat) : Int) - (2 : Int))) < ((x7.length : Nat) : Int)) (
              (ref07_branch x0 (x2.getD x8.toNat (0 : Int)) (x7.getD (IntKind.i64.wrap (((x7.length : Nat) : Int) - (1 : Int))).toNat ([] : List Bool)) (x7.getD (IntKind.i64.wrap (((x7.length : Nat) : Int) - (2 : Int))).toNat ([] : List Bool))).bind fun r202 =>
                gd (0 ≤ (IntKind.i64.wrap (((x7.length : Nat) : Int) - (2 : Int))) ∧ (IntKind.i64.wrap (((x7.length : Nat) : Int) - (2 : Int))) ≤ ((x7.length : Nat) : Int)) (
                  gd (((x7.take (IntKind.i64.wrap (((x7.length : Nat) : Int) - (2 : Int))).toNat).length + [r202].length) * 24 ≤ 1073741824 ∧ (x7.take (IntKind.i64.wrap (((x7.length : Nat) : Int) - (2 : Int))).toNat).length + [r202].length ≤ 1073741824) (ref07_accepts_j4 x0 x1 x2 x8 ((x7.take (IntKind.i64.wrap (((x7.length : Nat) : Int) - (2 : Int))).toNat) ++ [r202])))))))
  else
    some (.inr x7)
noncomputable def ref07_accepts (x0 : T_api_TreeAutomaton) (x1 : (List Int)) (x2 : (List Int)) : Option (Bool) :=
  (loopP (ref07_accepts_l3 x0 x1 x2) (([] : List (List Bool)), (IntKind.i64.wrap (((x1.length : Nat) : Int) - (1 : Int))))).bind fun x7c =>
    gd (0 ≤ (0 : Int) ∧ (0 : Int) < ((x7c.length : Nat) : Int)) (
      (ref07_meets (x7c.getD (0 : Int).toNat ([] : List Bool)) x0.2.2.1).bind fun r42 =>
        some r42)
noncomputable def ref07_Accepts_q1 (x0 : T_api_TreeAutomaton) (x1 : (List Int)) (x2 : (List Int)) (x18 : Bool) : Option (Bool × Int) :=
  if x18 = true then
    some (false, (1 : Int))
  else
    (ref07_accepts x0 x1 x2).bind fun r25 =>
      some (r25, (0 : Int))
noncomputable def ref07_Accepts (x0 : T_api_TreeAutomaton) (x1 : (List Int)) (x2 : (List Int)) : Option (Bool × Int) :=
  (ref07_Validate x0).bind fun r32 =>
    if (r32 != (0 : Int)) = true then
      ref07_Accepts_q1 x0 x1 x2 true
    else
      (ref07_ValidTree x0.1 x1 x2).bind fun r88 =>
        ref07_Accepts_q1 x0 x1 x2 (!r88)
noncomputable def law07_TreeAccepts_q5 (x4 : Bool) : Option (Bool) :=
  some x4
noncomputable def law07_TreeAccepts_q1 (x0 : T_api_TreeAutomaton) (x1 : T_familychecklaw07_Tree) (x14 : Bool) : Option (Bool) :=
  if x14 = true then
    (law07_known).bind fun r2 =>
      some r2
  else
    (tree_Accepts x0 x1.1 x1.2.1).bind fun r42 =>
      (ref07_Accepts x0 x1.1 x1.2.1).bind fun r130 =>
        if (r42.1 == r130.1) = true then
          if (r42.2 == r130.2) = true then
            (law07_known).bind fun r250 =>
              law07_TreeAccepts_q5 r250
          else
            law07_TreeAccepts_q5 false
        else
          law07_TreeAccepts_q5 false
noncomputable def law07_TreeAccepts (x0 : T_api_TreeAutomaton) (x1 : T_familychecklaw07_Tree) : Option (Bool) :=
  (law07_Big x0).bind fun r32 =>
    if r32 = true then
      law07_TreeAccepts_q1 x0 x1 true
    else
      (law07_long x1).bind fun r56 =>
        law07_TreeAccepts_q1 x0 x1 r56
noncomputable def tree_grow_l3 (x0 : T_api_TreeAutomaton) : ((List Int) × (List Int) × Int) → Option (((List Int) × (List Int) × Int) ⊕ ((List Int) × (List Int))) := fun (x3_0, x3_1, x23) =>
  if (decide (x23 < ((x0.2.2.2.1.length : Nat) : Int))) = true then
    gd (0 ≤ x23 ∧ x23 < ((x0.2.2.2.1.length : Nat) : Int)) (
      gd (0 ≤ (x0.2.2.2.1.getD x23.toNat (Z_api_Leaf)).2.1 ∧ (x0.2.2.2.1.getD x23.toNat (Z_api_Leaf)).2.1 < x0.2.1) (
        some (.inl ((x3_0.set ((x0.2.2.2.1.getD x23.toNat (Z_api_Leaf)).2.1).toNat (1 : Int)), (x3_1.set ((x0.2.2.2.1.getD x23.toNat (Z_api_Leaf)).2.1).toNat ((x0.2.2.2.1.getD x23.toNat (Z_api_Leaf)).1)), (IntKind.i64.wrap (x23 + (1 : Int)))))))
  else
    some (.inr (x3_0, x3_1))
noncomputable def tree_grow_j18 (x0 : T_api_TreeAutomaton) (x44 : Int) (x3_0e : (List Int)) (x3_1e : (List Int)) (x3_2c : (List T_api_Branch)) (x6c : Bool) : Option (((List Int) × (List Int) × (List T_api_Branch) × Bool × Int) ⊕ ((List Int) × (List Int) × (List T_api_Branch) × Bool)) :=
  some (.inl (x3_0e, x3_1e, x3_2c, x6c, (IntKind.i64.wrap (x44 + (1 : Int)))))
noncomputable def tree_grow_q15 (x0 : T_api_TreeAutomaton) (x3_0d : (List Int)) (x3_1d : (List Int)) (x3_2b : (List T_api_Branch)) (x6b : Bool) (x44 : Int) (x95 : Bool) : Option (((List Int) × (List Int) × (List T_api_Branch) × Bool × Int) ⊕ ((List Int) × (List Int) × (List T_api_Branch) × Bool)) :=
  if x95 = true then
    gd (0 ≤ (x0.2.2.2.2.1.getD x44.toNat (Z_api_Branch)).2.2.2.1 ∧ (x0.2.2.2.2.1.getD x44.toNat (Z_api_Branch)).2.2.2.1 < x0.2.1) (
      tree_grow_j18 x0 x44 (x3_0d.set ((x0.2.2.2.2.1.getD x44.toNat (Z_api_Branch)).2.2.2.1).toNat (if (1099511627776 : Int) < (IntKind.i64.wrap ((IntKind.i64.wrap ((1 : Int) + (x3_0d.getD ((x0.2.2.2.2.1.getD x44.toNat (Z_api_Branch)).2.1).toNat (0 : Int)))) + (x3_0d.getD ((x0.2.2.2.2.1.getD x44.toNat (Z_api_Branch)).2.2.1).toNat (0 : Int)))) then (1099511627776 : Int) else (IntKind.i64.wrap ((IntKind.i64.wrap ((1 : Int) + (x3_0d.getD ((x0.2.2.2.2.1.getD x44.toNat (Z_api_Branch)).2.1).toNat (0 : Int)))) + (x3_0d.getD ((x0.2.2.2.2.1.getD x44.toNat (Z_api_Branch)).2.2.1).toNat (0 : Int)))))) (x3_1d.set ((x0.2.2.2.2.1.getD x44.toNat (Z_api_Branch)).2.2.2.1).toNat (-1 : Int)) (x3_2b.set ((x0.2.2.2.2.1.getD x44.toNat (Z_api_Branch)).2.2.2.1).toNat (x0.2.2.2.2.1.getD x44.toNat (Z_api_Branch))) true)
  else
    tree_grow_j18 x0 x44 x3_0d x3_1d x3_2b x6b
noncomputable def tree_grow_q13 (x0 : T_api_TreeAutomaton) (x3_0d : (List Int)) (x3_1d : (List Int)) (x3_2b : (List T_api_Branch)) (x6b : Bool) (x44 : Int) (x63 : Bool) : Option (((List Int) × (List Int) × (List T_api_Branch) × Bool × Int) ⊕ ((List Int) × (List Int) × (List T_api_Branch) × Bool)) :=
  if x63 = true then
    tree_grow_j18 x0 x44 x3_0d x3_1d x3_2b x6b
  else
    gd (0 ≤ (x0.2.2.2.2.1.getD x44.toNat (Z_api_Branch)).2.1 ∧ (x0.2.2.2.2.1.getD x44.toNat (Z_api_Branch)).2.1 < x0.2.1) (
      gd (0 ≤ (x0.2.2.2.2.1.getD x44.toNat (Z_api_Branch)).2.2.1 ∧ (x0.2.2.2.2.1.getD x44.toNat (Z_api_Branch)).2.2.1 < x0.2.1) (
        gd (0 ≤ (x0.2.2.2.2.1.getD x44.toNat (Z_api_Branch)).2.2.2.1 ∧ (x0.2.2.2.2.1.getD x44.toNat (Z_api_Branch)).2.2.2.1 < x0.2.1) (
          if ((x3_0d.getD ((x0.2.2.2.2.1.getD x44.toNat (Z_api_Branch)).2.2.2.1).toNat (0 : Int)) == (0 : Int)) = true then
            tree_grow_q15 x0 x3_0d x3_1d x3_2b x6b x44 true
          else
            tree_grow_q15 x0 x3_0d x3_1d x3_2b x6b x44 (decide ((if (1099511627776 : Int) < (IntKind.i64.wrap ((IntKind.i64.wrap ((1 : Int) + (x3_0d.getD ((x0.2.2.2.2.1.getD x44.toNat (Z_api_Branch)).2.1).toNat (0 : Int)))) + (x3_0d.getD ((x0.2.2.2.2.1.getD x44.toNat (Z_api_Branch)).2.2.1).toNat (0 : Int)))) then (1099511627776 : Int) else (IntKind.i64.wrap ((IntKind.i64.wrap ((1 : Int) + (x3_0d.getD ((x0.2.2.2.2.1.getD x44.toNat (Z_api_Branch)).2.1).toNat (0 : Int)))) + (x3_0d.getD ((x0.2.2.2.2.1.getD x44.toNat (Z_api_Branch)).2.2.1).toNat (0 : Int))))) < (x3_0d.getD ((x0.2.2.2.2.1.getD x44.toNat (Z_api_Branch)).2.2.2.1).toNat (0 : Int)))))))
noncomputable def tree_grow_l11 (x0 : T_api_TreeAutomaton) : ((List Int) × (List Int) × (List T_api_Branch) × Bool × Int) → Option (((List Int) × (List Int) × (List T_api_Branch) × Bool × Int) ⊕ ((List Int) × (List Int) × (List T_api_Branch) × Bool)) := fun (x3_0d, x3_1d, x3_2b, x6b, x44) =>
  if (decide (x44 < ((x0.2.2.2.2.1.length : Nat) : Int))) = true then
    gd (0 ≤ x44 ∧ x44 < ((x0.2.2.2.2.1.length : Nat) : Int)) (
      gd (0 ≤ (x0.2.2.2.2.1.getD x44.toNat (Z_api_Branch)).2.1 ∧ (x0.2.2.2.2.1.getD x44.toNat (Z_api_Branch)).2.1 < x0.2.1) (
        if ((x3_0d.getD ((x0.2.2.2.2.1.getD x44.toNat (Z_api_Branch)).2.1).toNat (0 : Int)) == (0 : Int)) = true then
          tree_grow_q13 x0 x3_0d x3_1d x3_2b x6b x44 true
        else
          gd (0 ≤ (x0.2.2.2.2.1.getD x44.toNat (Z_api_Branch)).2.2.1 ∧ (x0.2.2.2.2.1.getD x44.toNat (Z_api_Branch)).2.2.1 < x0.2.1) (tree_grow_q13 x0 x3_0d x3_1d x3_2b x6b x44 ((x3_0d.getD ((x0.2.2.2.2.1.getD x44.toNat (Z_api_Branch)).2.2.1).toNat (0 : Int)) == (0 : Int)))))
  else
    some (.inr (x3_0d, x3_1d, x3_2b, x6b))
noncomputable def tree_grow_l8 (x0 : T_api_TreeAutomaton) : ((List Int) × (List Int) × (List T_api_Branch) × Bool) → Option (((List Int) × (List Int) × (List T_api_Branch) × Bool) ⊕ ((List Int) × (List Int) × (List T_api_Branch))) := fun (x3_0c, x3_1c, x3_2, x6) =>
  if x6 = true then
    (loopP (tree_grow_l11 x0) (x3_0c, x3_1c, x3_2, false, (0 : Int))).bind fun (x3_0f, x3_1f, x3_2d, x6d) =>
      some (.inl (x3_0f, x3_1f, x3_2d, x6d))
  else
    some (.inr (x3_0c, x3_1c, x3_2))
noncomputable def tree_grow (x0 : T_api_TreeAutomaton) : Option (T_tree_growth) :=
  gd (0 ≤ x0.2.1 ∧ x0.2.1 ≤ 1073741824 ∧ x0.2.1 * ((8 : Nat) : Int) ≤ 1073741824) (
    gd (0 ≤ x0.2.1 ∧ x0.2.1 ≤ 1073741824 ∧ x0.2.1 * ((32 : Nat) : Int) ≤ 1073741824) (
      (loopP (tree_grow_l3 x0) ((List.replicate x0.2.1.toNat (0 : Int)), (List.replicate x0.2.1.toNat (0 : Int)), (0 : Int))).bind fun (x3_0b, x3_1b) =>
        (loopP (tree_grow_l8 x0) (x3_0b, x3_1b, (List.replicate x0.2.1.toNat (Z_api_Branch)), true)).bind fun (x3_0g, x3_1g, x3_2e) =>
          some ((x3_0g.take x0.2.1.toNat), (x3_1g.take x0.2.1.toNat), (x3_2e.take x0.2.1.toNat), ())))
noncomputable def tree_growth_write_v2_b (rec : T_tree_growth → Int → (List Int) → (List Int) → Option ((List Int) × (List Int))) (x0 : T_tree_growth) (x1 : Int) (x2 : (List Int)) (x3 : (List Int)) : Option ((List Int) × (List Int)) :=
  gd (0 ≤ x1 ∧ x1 < ((x0.2.1.length : Nat) : Int)) (
    if (decide ((x0.2.1.getD x1.toNat (0 : Int)) ≥ (0 : Int))) = true then
      gd ((x2.length + [(0 : Int)].length) * 8 ≤ 1073741824 ∧ x2.length + [(0 : Int)].length ≤ 1073741824) (
        gd ((x3.length + [(x0.2.1.getD x1.toNat (0 : Int))].length) * 8 ≤ 1073741824 ∧ x3.length + [(x0.2.1.getD x1.toNat (0 : Int))].length ≤ 1073741824) (some ((x2 ++ [(0 : Int)]), (x3 ++ [(x0.2.1.getD x1.toNat (0 : Int))]))))
    else
      gd (0 ≤ x1 ∧ x1 < ((x0.2.2.1.length : Nat) : Int)) (
        gd ((x2.length + [(2 : Int)].length) * 8 ≤ 1073741824 ∧ x2.length + [(2 : Int)].length ≤ 1073741824) (
          gd ((x3.length + [(x0.2.2.1.getD x1.toNat (Z_api_Branch)).1].length) * 8 ≤ 1073741824 ∧ x3.length + [(x0.2.2.1.getD x1.toNat (Z_api_Branch)).1].length ≤ 1073741824) (
            (rec x0 ((x0.2.2.1.getD x1.toNat (Z_api_Branch)).2.1) (x2 ++ [(2 : Int)]) (x3 ++ [(x0.2.2.1.getD x1.toNat (Z_api_Branch)).1])).bind fun r250 =>
              (rec x0 ((x0.2.2.1.getD x1.toNat (Z_api_Branch)).2.2.1) r250.1 r250.2).bind fun r338 =>
                some (r338.1, r338.2)))))
noncomputable def tree_growth_write_v2 : Nat → T_tree_growth → Int → (List Int) → (List Int) → Option ((List Int) × (List Int))
  | 0, _, _, _, _ => none
  | n + 1, x0, x1, x2, x3 => tree_growth_write_v2_b (tree_growth_write_v2 n) x0 x1 x2 x3
noncomputable def tree_growth_write (x0 : T_tree_growth) (x1 : Int) : Option ((List Int) × (List Int)) :=
  gd (0 ≤ x1 ∧ x1 < ((x0.2.1.length : Nat) : Int)) (
    if (decide ((x0.2.1.getD x1.toNat (0 : Int)) ≥ (0 : Int))) = true then
      some ([(0 : Int)], [(x0.2.1.getD x1.toNat (0 : Int))])
    else
      gd (0 ≤ x1 ∧ x1 < ((x0.2.2.1.length : Nat) : Int)) (
        (limP fun n => tree_growth_write_v2 n x0 ((x0.2.2.1.getD x1.toNat (Z_api_Branch)).2.1) [(2 : Int)] [(x0.2.2.1.getD x1.toNat (Z_api_Branch)).1]).bind fun r248 =>
          (limP fun n => tree_growth_write_v2 n x0 ((x0.2.2.1.getD x1.toNat (Z_api_Branch)).2.2.1) r248.1 r248.2).bind fun r336 =>
            some (r336.1, r336.2)))
noncomputable def tree_Witness_j11 (x0 : T_api_TreeAutomaton) (r88 : T_tree_growth) (x21 : Int) (x8b : Int) : Option ((Int × Int) ⊕ (Int)) :=
  some (.inl (x8b, (IntKind.i64.wrap (x21 + (1 : Int)))))
noncomputable def tree_Witness_q9 (x0 : T_api_TreeAutomaton) (r88 : T_tree_growth) (x8 : Int) (x21 : Int) (x47 : Bool) : Option ((Int × Int) ⊕ (Int)) :=
  if x47 = true then tree_Witness_j11 x0 r88 x21 (x0.2.2.1.getD x21.toNat (0 : Int)) else tree_Witness_j11 x0 r88 x21 x8
noncomputable def tree_Witness_l7 (x0 : T_api_TreeAutomaton) (r88 : T_tree_growth) : (Int × Int) → Option ((Int × Int) ⊕ (Int)) := fun (x8, x21) =>
  if (decide (x21 < ((x0.2.2.1.length : Nat) : Int))) = true then
    gd (0 ≤ x21 ∧ x21 < ((x0.2.2.1.length : Nat) : Int)) (
      gd (0 ≤ (x0.2.2.1.getD x21.toNat (0 : Int)) ∧ (x0.2.2.1.getD x21.toNat (0 : Int)) < ((r88.1.length : Nat) : Int)) (
        if (decide ((r88.1.getD (x0.2.2.1.getD x21.toNat (0 : Int)).toNat (0 : Int)) > (0 : Int))) = true then
          if (decide (x8 < (0 : Int))) = true then
            tree_Witness_q9 x0 r88 x8 x21 true
          else
            gd (0 ≤ x8 ∧ x8 < ((r88.1.length : Nat) : Int)) (tree_Witness_q9 x0 r88 x8 x21 (decide ((r88.1.getD (x0.2.2.1.getD x21.toNat (0 : Int)).toNat (0 : Int)) < (r88.1.getD x8.toNat (0 : Int)))))
        else
          tree_Witness_q9 x0 r88 x8 x21 false))
  else
    some (.inr x8)
noncomputable def tree_Witness (x0 : T_api_TreeAutomaton) : Option ((List Int) × (List Int) × Bool × Int) :=
  (tree_Validate x0).bind fun r48 =>
    if (r48 != (0 : Int)) = true then
      some (([] : List Int), ([] : List Int), false, r48)
    else
      (tree_grow x0).bind fun r88 =>
        (loopP (tree_Witness_l7 x0 r88) ((-1 : Int), (0 : Int))).bind fun x8c =>
          if (decide (x8c < (0 : Int))) = true then
            some (([] : List Int), ([] : List Int), false, (0 : Int))
          else
            gd (0 ≤ x8c ∧ x8c < ((r88.1.length : Nat) : Int)) (
              if (decide ((r88.1.getD x8c.toNat (0 : Int)) > (4095 : Int))) = true then
                some (([] : List Int), ([] : List Int), false, (4 : Int))
              else
                (tree_growth_write r88 x8c).bind fun r81 =>
                  some (r81.1, r81.2, true, (0 : Int)))
noncomputable def ref07_Fewest_l3 (x0 : T_api_TreeAutomaton) : ((List Int) × Int) → Option (((List Int) × Int) ⊕ ((List Int))) := fun (x4, x5) =>
  if (decide (x5 < ((x0.2.2.2.1.length : Nat) : Int))) = true then
    gd (0 ≤ x5 ∧ x5 < ((x0.2.2.2.1.length : Nat) : Int)) (
      gd (0 ≤ (x0.2.2.2.1.getD x5.toNat (Z_api_Leaf)).2.1 ∧ (x0.2.2.2.1.getD x5.toNat (Z_api_Leaf)).2.1 < x0.2.1) (some (.inl ((x4.set ((x0.2.2.2.1.getD x5.toNat (Z_api_Leaf)).2.1).toNat (1 : Int)), (IntKind.i64.wrap (x5 + (1 : Int)))))))
  else
    some (.inr x4)
noncomputable def ref07_Fewest_j11 (x0 : T_api_TreeAutomaton) (x7 : Int) (x4e : (List Int)) (x6c : Bool) : Option (((List Int) × Bool × Int) ⊕ ((List Int) × Bool)) :=
  some (.inl (x4e, x6c, (IntKind.i64.wrap (x7 + (1 : Int)))))
noncomputable def ref07_Fewest_q15 (x0 : T_api_TreeAutomaton) (x4d : (List Int)) (x6b : Bool) (x7 : Int) (x85 : Bool) : Option (((List Int) × Bool × Int) ⊕ ((List Int) × Bool)) :=
  if x85 = true then
    gd (0 ≤ (x0.2.2.2.2.1.getD x7.toNat (Z_api_Branch)).2.2.2.1 ∧ (x0.2.2.2.2.1.getD x7.toNat (Z_api_Branch)).2.2.2.1 < x0.2.1) (
      ref07_Fewest_j11 x0 x7 (x4d.set ((x0.2.2.2.2.1.getD x7.toNat (Z_api_Branch)).2.2.2.1).toNat (if (IntKind.i64.wrap ((IntKind.i64.wrap ((1 : Int) + (x4d.getD ((x0.2.2.2.2.1.getD x7.toNat (Z_api_Branch)).2.1).toNat (0 : Int)))) + (x4d.getD ((x0.2.2.2.2.1.getD x7.toNat (Z_api_Branch)).2.2.1).toNat (0 : Int)))) < (4097 : Int) then (IntKind.i64.wrap ((IntKind.i64.wrap ((1 : Int) + (x4d.getD ((x0.2.2.2.2.1.getD x7.toNat (Z_api_Branch)).2.1).toNat (0 : Int)))) + (x4d.getD ((x0.2.2.2.2.1.getD x7.toNat (Z_api_Branch)).2.2.1).toNat (0 : Int)))) else (4097 : Int))) true)
  else
    ref07_Fewest_j11 x0 x7 x4d x6b
noncomputable def ref07_Fewest_q13 (x0 : T_api_TreeAutomaton) (x4d : (List Int)) (x6b : Bool) (x7 : Int) (x57 : Bool) : Option (((List Int) × Bool × Int) ⊕ ((List Int) × Bool)) :=
  if x57 = true then
    ref07_Fewest_j11 x0 x7 x4d x6b
  else
    gd (0 ≤ (x0.2.2.2.2.1.getD x7.toNat (Z_api_Branch)).2.1 ∧ (x0.2.2.2.2.1.getD x7.toNat (Z_api_Branch)).2.1 < x0.2.1) (
      gd (0 ≤ (x0.2.2.2.2.1.getD x7.toNat (Z_api_Branch)).2.2.1 ∧ (x0.2.2.2.2.1.getD x7.toNat (Z_api_Branch)).2.2.1 < x0.2.1) (
        gd (0 ≤ (x0.2.2.2.2.1.getD x7.toNat (Z_api_Branch)).2.2.2.1 ∧ (x0.2.2.2.2.1.getD x7.toNat (Z_api_Branch)).2.2.2.1 < x0.2.1) (
          if ((x4d.getD ((x0.2.2.2.2.1.getD x7.toNat (Z_api_Branch)).2.2.2.1).toNat (0 : Int)) == (0 : Int)) = true then
            ref07_Fewest_q15 x0 x4d x6b x7 true
          else
            ref07_Fewest_q15 x0 x4d x6b x7 (decide ((if (IntKind.i64.wrap ((IntKind.i64.wrap ((1 : Int) + (x4d.getD ((x0.2.2.2.2.1.getD x7.toNat (Z_api_Branch)).2.1).toNat (0 : Int)))) + (x4d.getD ((x0.2.2.2.2.1.getD x7.toNat (Z_api_Branch)).2.2.1).toNat (0 : Int)))) < (4097 : Int) then (IntKind.i64.wrap ((IntKind.i64.wrap ((1 : Int) + (x4d.getD ((x0.2.2.2.2.1.getD x7.toNat (Z_api_Branch)).2.1).toNat (0 : Int)))) + (x4d.getD ((x0.2.2.2.2.1.getD x7.toNat (Z_api_Branch)).2.2.1).toNat (0 : Int)))) else (4097 : Int)) < (x4d.getD ((x0.2.2.2.2.1.getD x7.toNat (Z_api_Branch)).2.2.2.1).toNat (0 : Int)))))))
noncomputable def ref07_Fewest_l10 (x0 : T_api_TreeAutomaton) : ((List Int) × Bool × Int) → Option (((List Int) × Bool × Int) ⊕ ((List Int) × Bool)) := fun (x4d, x6b, x7) =>
  if (decide (x7 < ((x0.2.2.2.2.1.length : Nat) : Int))) = true then
    gd (0 ≤ x7 ∧ x7 < ((x0.2.2.2.2.1.length : Nat) : Int)) (
      gd (0 ≤ (x0.2.2.2.2.1.getD x7.toNat (Z_api_Branch)).2.1 ∧ (x0.2.2.2.2.1.getD x7.toNat (Z_api_Branch)).2.1 < x0.2.1) (
        if ((x4d.getD ((x0.2.2.2.2.1.getD x7.toNat (Z_api_Branch)).2.1).toNat (0 : Int)) == (0 : Int)) = true then
          ref07_Fewest_q13 x0 x4d x6b x7 true
        else
          gd (0 ≤ (x0.2.2.2.2.1.getD x7.toNat (Z_api_Branch)).2.2.1 ∧ (x0.2.2.2.2.1.getD x7.toNat (Z_api_Branch)).2.2.1 < x0.2.1) (ref07_Fewest_q13 x0 x4d x6b x7 ((x4d.getD ((x0.2.2.2.2.1.getD x7.toNat (Z_api_Branch)).2.2.1).toNat (0 : Int)) == (0 : Int)))))
  else
    some (.inr (x4d, x6b))
noncomputable def ref07_Fewest_l7 (x0 : T_api_TreeAutomaton) : ((List Int) × Bool) → Option (((List Int) × Bool) ⊕ ((List Int))) := fun (x4c, x6) =>
  if x6 = true then
    (loopP (ref07_Fewest_l10 x0) (x4c, false, (0 : Int))).bind fun (x4f, x6d) =>
      some (.inl (x4f, x6d))
  else
    some (.inr x4c)
noncomputable def ref07_Fewest_j21 (x0 : T_api_TreeAutomaton) (x4g : (List Int)) (x11 : Int) (x10b : Int) : Option ((Int × Int) ⊕ (Int)) :=
  some (.inl (x10b, (IntKind.i64.wrap (x11 + (1 : Int)))))
noncomputable def ref07_Fewest_q23 (x0 : T_api_TreeAutomaton) (x4g : (List Int)) (x10 : Int) (x11 : Int) (x116 : Bool) : Option ((Int × Int) ⊕ (Int)) :=
  if x116 = true then ref07_Fewest_j21 x0 x4g x11 (x4g.getD (x0.2.2.1.getD x11.toNat (0 : Int)).toNat (0 : Int)) else ref07_Fewest_j21 x0 x4g x11 x10
noncomputable def ref07_Fewest_l20 (x0 : T_api_TreeAutomaton) (x4g : (List Int)) : (Int × Int) → Option ((Int × Int) ⊕ (Int)) := fun (x10, x11) =>
  if (decide (x11 < ((x0.2.2.1.length : Nat) : Int))) = true then
    gd (0 ≤ x11 ∧ x11 < ((x0.2.2.1.length : Nat) : Int)) (
      gd (0 ≤ (x0.2.2.1.getD x11.toNat (0 : Int)) ∧ (x0.2.2.1.getD x11.toNat (0 : Int)) < x0.2.1) (
        if (decide ((x4g.getD (x0.2.2.1.getD x11.toNat (0 : Int)).toNat (0 : Int)) > (0 : Int))) = true then
          if (x10 == (0 : Int)) = true then
            ref07_Fewest_q23 x0 x4g x10 x11 true
          else
            ref07_Fewest_q23 x0 x4g x10 x11 (decide ((x4g.getD (x0.2.2.1.getD x11.toNat (0 : Int)).toNat (0 : Int)) < x10))
        else
          ref07_Fewest_q23 x0 x4g x10 x11 false))
  else
    some (.inr x10)
noncomputable def ref07_Fewest (x0 : T_api_TreeAutomaton) : Option (Int × Bool) :=
  gd (0 ≤ x0.2.1 ∧ x0.2.1 ≤ 1073741824 ∧ x0.2.1 * ((8 : Nat) : Int) ≤ 1073741824) (
    (loopP (ref07_Fewest_l3 x0) ((List.replicate x0.2.1.toNat (0 : Int)), (0 : Int))).bind fun x4b =>
      (loopP (ref07_Fewest_l7 x0) (x4b, true)).bind fun x4g =>
        (loopP (ref07_Fewest_l20 x0 x4g) ((0 : Int), (0 : Int))).bind fun x10c =>
          some (x10c, (decide (x10c > (0 : Int)))))
noncomputable def law07_TreeWitnesses_q6 (x2 : Bool) : Option (Bool) :=
  some x2
noncomputable def law07_TreeWitnesses_q9 (x2b : Bool) : Option (Bool) :=
  some x2b
noncomputable def law07_TreeWitnesses_q13 (x2c : Bool) : Option (Bool) :=
  some x2c
noncomputable def law07_TreeWitnesses_q15 (x2d : Bool) : Option (Bool) :=
  some x2d
noncomputable def law07_TreeWitnesses_q10 (x0 : T_api_TreeAutomaton) (r40 : (List Int) × (List Int) × Bool × Int) (x80 : Bool) : Option (Bool) :=
  if x80 = true then
    some false
  else
    if (!r40.2.2.1) = true then
      if (((r40.2.1.length : Nat) : Int) == (0 : Int)) = true then
        (law07_known).bind fun r49 =>
          law07_TreeWitnesses_q13 r49
      else
        law07_TreeWitnesses_q13 false
    else
      (ref07_Accepts x0 r40.1 r40.2.1).bind fun r41 =>
        if (r41.2 == (0 : Int)) = true then
          if r41.1 = true then
            (law07_known).bind fun r137 =>
              law07_TreeWitnesses_q15 r137
          else
            law07_TreeWitnesses_q15 false
        else
          law07_TreeWitnesses_q15 false
noncomputable def law07_TreeWitnesses (x0 : T_api_TreeAutomaton) : Option (Bool) :=
  (law07_Big x0).bind fun r24 =>
    if r24 = true then
      (law07_known).bind fun r32 =>
        some r32
    else
      (tree_Witness x0).bind fun r40 =>
        (ref07_Validate x0).bind fun r128 =>
          if (r128 != (0 : Int)) = true then
            if (r40.2.2.2 == r128) = true then
              if (!r40.2.2.1) = true then
                if ((IntKind.i64.wrap (((r40.1.length : Nat) : Int) + ((r40.2.1.length : Nat) : Int))) == (0 : Int)) = true then
                  (law07_known).bind fun r288 =>
                    law07_TreeWitnesses_q6 r288
                else
                  law07_TreeWitnesses_q6 false
              else
                law07_TreeWitnesses_q6 false
            else
              law07_TreeWitnesses_q6 false
          else
            (ref07_Fewest x0).bind fun r168 =>
              if (decide (r168.1 > (4095 : Int))) = true then
                if (r40.2.2.2 == (4 : Int)) = true then
                  if (!r40.2.2.1) = true then
                    if ((IntKind.i64.wrap (((r40.1.length : Nat) : Int) + ((r40.2.1.length : Nat) : Int))) == (0 : Int)) = true then
                      (law07_known).bind fun r352 =>
                        law07_TreeWitnesses_q9 r352
                    else
                      law07_TreeWitnesses_q9 false
                  else
                    law07_TreeWitnesses_q9 false
                else
                  law07_TreeWitnesses_q9 false
              else
                if (r40.2.2.2 != (0 : Int)) = true then
                  law07_TreeWitnesses_q10 x0 r40 true
                else
                  if (!(r40.2.2.1 == r168.2)) = true then law07_TreeWitnesses_q10 x0 r40 true else law07_TreeWitnesses_q10 x0 r40 (((r40.1.length : Nat) : Int) != r168.1)
end Go.Lite.Fam
end

section
set_option linter.unusedVariables false
namespace Go.Lite.Fam
open Go Go.Lite Go.Proofs

def K_api_Leaf : K := (.pair (.int .i64) (.pair (.int .i64) .unit))
def K_api_Branch : K := (.pair (.int .i64) (.pair (.int .i64) (.pair (.int .i64) (.pair (.int .i64) .unit))))
def K_api_TreeAutomaton : K := (.pair (.int .i64) (.pair (.int .i64) (.pair (.slice (.int .i64)) (.pair (.slice K_api_Leaf) (.pair (.slice K_api_Branch) .unit)))))
def K_familychecklaw07_Tree : K := (.pair (.slice (.int .i64)) (.pair (.slice (.int .i64)) .unit))
def K_tree_growth : K := (.pair (.slice (.int .i64)) (.pair (.slice (.int .i64)) (.pair (.slice K_api_Branch) .unit)))
def h3 : Hint := { own := [], keep := [], grow := [], rows := [], names := 0, pre := [], post := [(1, [2, 3, 14]), (5, [4])] }
def h4 : Hint := { own := [], keep := [], grow := [], rows := [], names := 0, pre := [], post := [(6, [2]), (9, [2]), (10, [1, 3, 4, 5, 80]), (13, [2]), (15, [2])] }
def h5 : Hint := { own := [], keep := [], grow := [], rows := [], names := 0, pre := [], post := [(1, [2])] }
def h6 : Hint := { own := [], keep := [], grow := [], rows := [], names := 0, pre := [], post := [(1, [2])] }
def h7 : Hint := { own := [], keep := [], grow := [], rows := [], names := 0, pre := [], post := [] }
def h8 : Hint := { own := [], keep := [], grow := [], rows := [(44, .no, (.int .u64))], names := 0, pre := [(8, [1, 2, 3, 9, 10]), (16, [1, 2, 3, 9, 10, 11]), (17, [3, 9]), (18, [9, 71, 72, 73]), (23, [])], post := [] }
def h9 : Hint := { own := [], keep := [], grow := [], rows := [], names := 0, pre := [], post := [(1, [1, 2, 3, 18])] }
def h10 : Hint := { own := [], keep := [], grow := [], rows := [], names := 0, pre := [(7, [7, 8, 19, 20, 21]), (11, [7, 8, 19, 20, 21]), (12, [7, 8])], post := [(9, [7, 8, 10, 19, 20, 21, 47])] }
def h11 : Hint := { own := [], keep := [], grow := [], rows := [], names := 0, pre := [(4, [1, 3]), (8, [1]), (9, [1, 4]), (13, [1]), (14, [1, 5]), (19, [])], post := [(1, [1, 16]), (11, [1, 4, 64]), (17, [1, 5, 110])] }
def h12 : Hint := { own := [], keep := [], grow := [], rows := [], names := 0, pre := [(3, [1, 4, 5]), (6, [1, 4]), (7, [1, 4, 6]), (10, [1, 4, 6, 7]), (11, [1, 4, 6, 7]), (18, [1, 4]), (20, [1, 4, 10, 11]), (21, [1, 4, 10, 11]), (25, [10])], post := [(13, [1, 4, 6, 7, 8, 57]), (15, [1, 4, 6, 7, 8, 9, 85]), (23, [1, 4, 10, 11, 12, 116])] }
def h14 : Hint := { own := [], keep := [], grow := [], rows := [], names := 0, pre := [(5, [0, 2, 7, 25, 26, 27]), (11, [7])], post := [(1, [0, 1, 2, 24]), (7, [0, 2, 7, 9, 25, 26, 27, 56])] }
def h15 : Hint := { own := [], keep := [], grow := [], rows := [], names := 0, pre := [(6, [1, 3, 4, 32, 33, 34]), (11, [1, 3, 4]), (12, [1, 3, 4, 44, 45, 46]), (17, [1, 3, 4]), (18, [3, 4, 64, 65, 66]), (23, [])], post := [(1, [1, 28]), (14, [1, 3, 4, 44, 45, 46, 61]), (20, [3, 4, 64, 65, 66, 95])] }
def h16 : Hint := { own := [], keep := [], grow := [], rows := [], names := 0, pre := [(3, [1, 5, 9, 10, 11]), (7, [1, 5, 9, 10, 11]), (8, [5])], post := [] }
def h17 : Hint := { own := [], keep := [], grow := [], rows := [], names := 0, pre := [(3, [1, 2, 3, 9, 13, 14, 15]), (7, [1, 2, 3, 9, 13, 14, 15]), (8, [9])], post := [(5, [1, 2, 3, 9, 11, 13, 14, 15, 38])] }
def h18 : Hint := { own := [], keep := [], grow := [], rows := [], names := 0, pre := [(4, [0, 2, 7]), (8, [])], post := [(1, [0, 2, 23]), (6, [0, 2, 7, 42])] }
def h19 : Hint := { own := [], keep := [], grow := [], rows := [(65, .no, (.slice .bool))], names := 0, pre := [(3, [1, 2, 3, 7, 8]), (4, [1, 2, 3, 7, 8]), (10, [3, 7])], post := [] }
def h20 : Hint := { own := [], keep := [], grow := [], rows := [], names := 0, pre := [(3, [1, 2, 3, 21, 22, 23]), (7, [1, 2, 3]), (8, [1, 2, 3, 6]), (11, [1, 2, 3, 6, 42, 43, 44]), (18, [1, 2, 3, 6, 42, 43, 44]), (19, [2, 3])], post := [(13, [1, 2, 3, 6, 8, 42, 43, 44, 63]), (15, [1, 2, 3, 6, 8, 9, 42, 43, 44, 95])] }
def h21 : Hint := { own := [2, 3], keep := [0, 1], grow := [], rows := [], names := 2, pre := [], post := [] }
def h22 : Hint := { own := [], keep := [], grow := [], rows := [], names := 0, pre := [], post := [(1, [6])] }
def h25 : Hint := { own := [], keep := [], grow := [], rows := [], names := 1, pre := [], post := [(1, [3])] }
def h26 : Hint := { own := [], keep := [], grow := [], rows := [], names := 1, pre := [], post := [(1, [3])] }
def h27 : Hint := { own := [], keep := [], grow := [], rows := [], names := 0, pre := [(3, [0, 3, 4]), (8, [3])], post := [(5, [0, 3, 4, 26])] }
def h28 : Hint := { own := [], keep := [], grow := [], rows := [], names := 0, pre := [(3, [1, 2, 5, 6]), (4, [1, 2, 5, 6]), (7, [5])], post := [] }
def h29 : Hint := { own := [], keep := [], grow := [], rows := [], names := 0, pre := [(3, [1, 2, 3, 4, 9, 10]), (4, [1, 2, 3, 4, 9, 10]), (8, [9])], post := [(6, [1, 2, 3, 4, 9, 10, 11, 44])] }
def h30 : Hint := { own := [], keep := [], grow := [], rows := [], names := 0, pre := [(2, [0, 1, 5]), (6, [])], post := [] }
def h37 : Hint := { own := [], keep := [], grow := [(72, (.row .no))], rows := [], names := 0, pre := [], post := [] }
def hints : List (Nat × Hint) := [(3, h3), (4, h4), (5, h5), (6, h6), (7, h7), (8, h8), (9, h9), (10, h10), (11, h11), (12, h12), (14, h14), (15, h15), (16, h16), (17, h17), (18, h18), (19, h19), (20, h20), (21, h21), (22, h22), (25, h25), (26, h26), (27, h27), (28, h28), (29, h29), (30, h30), (37, h37)]
noncomputable def cx : Cx := mkCx Try.prog (hintOf hints) (fun _ => none)
theorem ty3 : cx.ty 3 = some { td := .int .i64, size := 1, bytes := 8, kind := some (.int .i64) } := by kernel_rfl
theorem ty4 : cx.ty 4 = some { td := .bool, size := 1, bytes := 1, kind := some .bool } := by kernel_rfl
theorem ty22 : cx.ty 22 = some { td := .slice 3, size := 1, bytes := 24, kind := some (.slice (.int .i64)) } := by kernel_rfl
theorem ty23 : cx.ty 23 = some { td := .slice 56, size := 1, bytes := 24, kind := some (.slice K_api_Leaf) } := by kernel_rfl
theorem ty24 : cx.ty 24 = some { td := .slice 58, size := 1, bytes := 24, kind := some (.slice K_api_Branch) } := by kernel_rfl
theorem ty26 : cx.ty 26 = some { td := .struct [(0, 3), (1, 3), (2, 22), (3, 23), (4, 24)], size := 5, bytes := 88, kind := some K_api_TreeAutomaton } := by kernel_rfl
theorem ty28 : cx.ty 28 = some { td := .struct [(0, 22), (1, 22)], size := 2, bytes := 48, kind := some K_familychecklaw07_Tree } := by kernel_rfl
theorem ty32 : cx.ty 32 = some { td := .int .i64, size := 1, bytes := 8, kind := some (.int .i64) } := by kernel_rfl
theorem ty44 : cx.ty 44 = some { td := .slice 45, size := 1, bytes := 24, kind := some (.slice (.int .u64)) } := by kernel_rfl
theorem ty45 : cx.ty 45 = some { td := .int .u64, size := 1, bytes := 8, kind := some (.int .u64) } := by kernel_rfl
theorem ty50 : cx.ty 50 = some { td := .struct [(0, 22), (1, 22), (2, 24)], size := 3, bytes := 72, kind := some K_tree_growth } := by kernel_rfl
theorem ty56 : cx.ty 56 = some { td := .struct [(0, 3), (1, 3)], size := 2, bytes := 16, kind := some K_api_Leaf } := by kernel_rfl
theorem ty58 : cx.ty 58 = some { td := .struct [(0, 3), (1, 3), (2, 3), (3, 3)], size := 4, bytes := 32, kind := some K_api_Branch } := by kernel_rfl
theorem ty65 : cx.ty 65 = some { td := .slice 66, size := 1, bytes := 24, kind := some (.slice (.slice .bool)) } := by kernel_rfl
theorem ty66 : cx.ty 66 = some { td := .slice 4, size := 1, bytes := 24, kind := some (.slice .bool) } := by kernel_rfl
theorem zero50 : cx.zero 50 = some [.nilS 22, .nilS 22, .nilS 24] := by kernel_rfl
theorem zero56 : cx.zero 56 = some [.data (.int .i64) (0 : Int), .data (.int .i64) (0 : Int)] := by kernel_rfl
theorem zero58 : cx.zero 58 = some [.data (.int .i64) (0 : Int), .data (.int .i64) (0 : Int), .data (.int .i64) (0 : Int), .data (.int .i64) (0 : Int)] := by kernel_rfl
theorem pl50 : placesOf cx [(0, 22), (1, 22), (2, 24)] = some [(0, 1), (1, 1), (2, 1)] := (placesC ty22 (placesC ty22 (placesC ty24 placesN)))
theorem fn3 : cx.fn 3 = some Try.f3 := by kernel_rfl
theorem fn4 : cx.fn 4 = some Try.f4 := by kernel_rfl
theorem fn5 : cx.fn 5 = some Try.f5 := by kernel_rfl
theorem fn6 : cx.fn 6 = some Try.f6 := by kernel_rfl
theorem fn7 : cx.fn 7 = some Try.f7 := by kernel_rfl
theorem fn8 : cx.fn 8 = some Try.f8 := by kernel_rfl
theorem fn9 : cx.fn 9 = some Try.f9 := by kernel_rfl
theorem fn10 : cx.fn 10 = some Try.f10 := by kernel_rfl
theorem fn11 : cx.fn 11 = some Try.f11 := by kernel_rfl
theorem fn12 : cx.fn 12 = some Try.f12 := by kernel_rfl
theorem fn14 : cx.fn 14 = some Try.f14 := by kernel_rfl
theorem fn15 : cx.fn 15 = some Try.f15 := by kernel_rfl
theorem fn16 : cx.fn 16 = some Try.f16 := by kernel_rfl
theorem fn17 : cx.fn 17 = some Try.f17 := by kernel_rfl
theorem fn18 : cx.fn 18 = some Try.f18 := by kernel_rfl
theorem fn19 : cx.fn 19 = some Try.f19 := by kernel_rfl
theorem fn20 : cx.fn 20 = some Try.f20 := by kernel_rfl
theorem fn21 : cx.fn 21 = some Try.f21 := by kernel_rfl
theorem fn22 : cx.fn 22 = some Try.f22 := by kernel_rfl
theorem fn25 : cx.fn 25 = some Try.f25 := by kernel_rfl
theorem fn26 : cx.fn 26 = some Try.f26 := by kernel_rfl
theorem fn27 : cx.fn 27 = some Try.f27 := by kernel_rfl
theorem fn28 : cx.fn 28 = some Try.f28 := by kernel_rfl
theorem fn29 : cx.fn 29 = some Try.f29 := by kernel_rfl
theorem fn30 : cx.fn 30 = some Try.f30 := by kernel_rfl
end Go.Lite.Fam
end

section
set_option linter.unusedVariables false
set_option linter.unusedSimpArgs false
set_option maxRecDepth 100000
set_option maxHeartbeats 20000000
namespace Go.Lite.Fam
open Go Go.Lite Go.Proofs

theorem law07_known_ok {r : Bool} (hF : law07_known = some r) : evalLim cx 7 [] [] = some (.data .bool r, []) := by
  cases hF; exact lim_some.2 ⟨20, by kernel_rfl⟩

end Go.Lite.Fam
end

section
set_option linter.unusedVariables false
set_option linter.unusedSimpArgs false
set_option maxRecDepth 100000
set_option maxHeartbeats 20000000
namespace Go.Lite.Fam
open Go Go.Lite Go.Proofs

def law07_Big_t1 (x2 : Bool) : St := ⟨slotsOf [(2, .data .bool x2)], heapFrom 0 [], 0⟩
theorem law07_Big_ok {x0 : T_api_TreeAutomaton} {r : Bool} (hF : law07_Big x0 = some r) : evalLim cx 5 [.data K_api_TreeAutomaton x0] [] = some (.data .bool r, []) := by
  refine fnG (h := h5) fn5 rfl rfl rfl rfl ?_
  unfold law07_Big at hF
  refine wR rfl rfl ?_
  refine W (eBox rfl rfl) rfl ?_
  refine W (eAsg rfl rfl) rfl ?_
  refine wo_end ?_
  refine wRq (M := fun s => ∃ x2, law07_Big_q1 x2 = some r ∧ s = law07_Big_t1 x2) rfl ?_ ?_
  · refine W (eFaP rfl (fieldAt ty26 rfl rfl ty22 rfl)) rfl ?_
    refine W (eLdP rfl rfl ty22 rfl rfl) rfl ?_
    refine W (eLen rfl rfl (lenD (isSliceOf ty22 rfl))) rfl ?_
    refine W (eBin rfl rfl rfl) rfl ?_
    refine W (eMove rfl rfl) rfl ?_
    refine ifT hF (fun c1 hF => ?_) (fun c1 hF => ?_)
    · refine Wn rfl rfl c1 rfl ?_
      refine Wn rfl rfl c1 rfl ?_
      refine Wn rfl rfl c1 rfl ?_
      refine Wn rfl rfl c1 rfl ?_
      refine W (ePickT rfl c1 rfl) rfl ?_
      refine W (eMove rfl rfl) rfl ?_
      refine Wn rfl rfl rfl rfl ?_
      refine Wn rfl rfl rfl rfl ?_
      refine Wn rfl rfl rfl rfl ?_
      refine Wn rfl rfl rfl rfl ?_
      refine W (ePickT rfl rfl rfl) rfl ?_
      refine W (eAsg rfl rfl) rfl ?_
      refine wo_end ?_
      exact ⟨law07_Big_t1 true, by kernel_rfl, true, hF, rfl⟩
    · refine Wy rfl rfl c1 (eFaP rfl (fieldAt ty26 rfl rfl ty23 rfl)) rfl ?_
      refine Wy rfl rfl c1 (eLdP rfl rfl ty23 rfl rfl) rfl ?_
      refine Wy rfl rfl c1 (eLen rfl rfl (lenD (isSliceOf ty23 rfl))) rfl ?_
      refine Wy rfl rfl c1 (eBin rfl rfl rfl) rfl ?_
      refine W (ePickF rfl c1 rfl) rfl ?_
      refine W (eMove rfl rfl) rfl ?_
      refine ifT hF (fun c2 hF => ?_) (fun c2 hF => ?_)
      · refine Wn rfl rfl c2 rfl ?_
        refine Wn rfl rfl c2 rfl ?_
        refine Wn rfl rfl c2 rfl ?_
        refine Wn rfl rfl c2 rfl ?_
        refine W (ePickT rfl c2 rfl) rfl ?_
        refine W (eAsg rfl rfl) rfl ?_
        refine wo_end ?_
        exact ⟨law07_Big_t1 true, by kernel_rfl, true, hF, rfl⟩
      · refine Wy rfl rfl c2 (eFaP rfl (fieldAt ty26 rfl rfl ty24 rfl)) rfl ?_
        refine Wy rfl rfl c2 (eLdP rfl rfl ty24 rfl rfl) rfl ?_
        refine Wy rfl rfl c2 (eLen rfl rfl (lenD (isSliceOf ty24 rfl))) rfl ?_
        refine Wy rfl rfl c2 (eBin rfl rfl rfl) rfl ?_
        refine W (ePickF rfl c2 rfl) rfl ?_
        refine W (eAsg rfl rfl) rfl ?_
        refine wo_end ?_
        exact ⟨law07_Big_t1 (decide (((x0.2.2.2.2.1.length : Nat) : Int) > (800 : Int))), by kernel_rfl, (decide (((x0.2.2.2.2.1.length : Nat) : Int) > (800 : Int))), hF, rfl⟩
  · rintro s ⟨x2, hF, rfl⟩
    unfold law07_Big_q1 at hF
    refine wp_ret ?_
    cases hF; exact (And.intro (.inr rfl) (finG rfl rfl (mapC rfl mapN) (fvD rfl ty4 rfl dD fvN) (by kernel_rfl)))

end Go.Lite.Fam
end

section
set_option linter.unusedVariables false
set_option linter.unusedSimpArgs false
set_option maxRecDepth 100000
set_option maxHeartbeats 20000000
namespace Go.Lite.Fam
open Go Go.Lite Go.Proofs

def ref07_within_t1 (x6 : Bool) : St := ⟨slotsOf [(6, .data .bool x6)], heapFrom 0 [], 0⟩
theorem ref07_within_ok {x0 : Int} {x1 : Int} {x2 : Int} {r : Bool} (hF : ref07_within x0 x1 x2 = some r) : evalLim cx 22 [.data (.int .i64) x0, .data (.int .i64) x1, .data (.int .i64) x2] [] = some (.data .bool r, []) := by
  refine fnG (h := h22) fn22 rfl rfl rfl rfl ?_
  unfold ref07_within at hF
  refine wR rfl rfl ?_
  refine W (eAsg rfl rfl) rfl ?_
  refine wo_end ?_
  refine wRq (M := fun s => ∃ x6, ref07_within_q1 x6 = some r ∧ s = ref07_within_t1 x6) rfl ?_ ?_
  · refine W (eMove rfl rfl) rfl ?_
    refine W (eMove rfl rfl) rfl ?_
    refine W (eBin rfl rfl rfl) rfl ?_
    refine W (eMove rfl rfl) rfl ?_
    refine ifT hF (fun c1 hF => ?_) (fun c1 hF => ?_)
    · refine Wy rfl rfl c1 (eMove rfl rfl) rfl ?_
      refine Wy rfl rfl c1 (eMove rfl rfl) rfl ?_
      refine Wy rfl rfl c1 (eBin rfl rfl rfl) rfl ?_
      refine W (ePickT rfl c1 rfl) rfl ?_
      refine W (eAsg rfl rfl) rfl ?_
      refine wo_end ?_
      exact ⟨ref07_within_t1 (decide (x0 ≤ x2)), by kernel_rfl, (decide (x0 ≤ x2)), hF, rfl⟩
    · refine Wn rfl rfl c1 rfl ?_
      refine Wn rfl rfl c1 rfl ?_
      refine Wn rfl rfl c1 rfl ?_
      refine W (ePickF rfl c1 rfl) rfl ?_
      refine W (eAsg rfl rfl) rfl ?_
      refine wo_end ?_
      exact ⟨ref07_within_t1 false, by kernel_rfl, false, hF, rfl⟩
  · rintro s ⟨x6, hF, rfl⟩
    unfold ref07_within_q1 at hF
    refine wp_ret ?_
    cases hF; exact (And.intro (.inr rfl) (finG rfl rfl (mapC rfl mapN) (fvD rfl ty4 rfl dD fvN) (by kernel_rfl)))

end Go.Lite.Fam
end

section
set_option linter.unusedVariables false
set_option linter.unusedSimpArgs false
set_option maxRecDepth 100000
set_option maxHeartbeats 20000000
namespace Go.Lite.Fam
open Go Go.Lite Go.Proofs

def ref07_Validate_t1 (x0 : T_api_TreeAutomaton) (x16 : Bool) : St := ⟨slotsOf [(1, .ptr 0 0), (16, .data .bool x16)], heapFrom 0 [some (.box [.data (.int .i64) x0.1, .data (.int .i64) x0.2.1, .data (.slice (.int .i64)) x0.2.2.1, .data (.slice K_api_Leaf) x0.2.2.2.1, .data (.slice K_api_Branch) x0.2.2.2.2.1])], 1⟩
def ref07_Validate_o4_8 (x0 : T_api_TreeAutomaton) : St := ⟨slotsOf [(1, .ptr 0 0)], heapFrom 0 [some (.box [.data (.int .i64) x0.1, .data (.int .i64) x0.2.1, .data (.slice (.int .i64)) x0.2.2.1, .data (.slice K_api_Leaf) x0.2.2.2.1, .data (.slice K_api_Branch) x0.2.2.2.2.1])], 1⟩
def ref07_Validate_s4 (x0 : T_api_TreeAutomaton) (x3 : Int) : St := ⟨slotsOf [(1, .ptr 0 0), (3, .data (.int .i64) x3)], heapFrom 0 [some (.box [.data (.int .i64) x0.1, .data (.int .i64) x0.2.1, .data (.slice (.int .i64)) x0.2.2.1, .data (.slice K_api_Leaf) x0.2.2.2.1, .data (.slice K_api_Branch) x0.2.2.2.2.1])], 1⟩
def ref07_Validate_t11 (x0 : T_api_TreeAutomaton) (x4 : Int) (x64 : Bool) : St := ⟨slotsOf [(1, .ptr 0 0), (4, .data (.int .i64) x4), (64, .data .bool x64)], heapFrom 0 [some (.box [.data (.int .i64) x0.1, .data (.int .i64) x0.2.1, .data (.slice (.int .i64)) x0.2.2.1, .data (.slice K_api_Leaf) x0.2.2.2.1, .data (.slice K_api_Branch) x0.2.2.2.2.1])], 1⟩
def ref07_Validate_o9_13 (x0 : T_api_TreeAutomaton) : St := ⟨slotsOf [(1, .ptr 0 0)], heapFrom 0 [some (.box [.data (.int .i64) x0.1, .data (.int .i64) x0.2.1, .data (.slice (.int .i64)) x0.2.2.1, .data (.slice K_api_Leaf) x0.2.2.2.1, .data (.slice K_api_Branch) x0.2.2.2.2.1])], 1⟩
def ref07_Validate_s9 (x0 : T_api_TreeAutomaton) (x4 : Int) : St := ⟨slotsOf [(1, .ptr 0 0), (4, .data (.int .i64) x4)], heapFrom 0 [some (.box [.data (.int .i64) x0.1, .data (.int .i64) x0.2.1, .data (.slice (.int .i64)) x0.2.2.1, .data (.slice K_api_Leaf) x0.2.2.2.1, .data (.slice K_api_Branch) x0.2.2.2.2.1])], 1⟩
def ref07_Validate_t17 (x0 : T_api_TreeAutomaton) (x5 : Int) (x110 : Bool) : St := ⟨slotsOf [(1, .ptr 0 0), (5, .data (.int .i64) x5), (110, .data .bool x110)], heapFrom 0 [some (.box [.data (.int .i64) x0.1, .data (.int .i64) x0.2.1, .data (.slice (.int .i64)) x0.2.2.1, .data (.slice K_api_Leaf) x0.2.2.2.1, .data (.slice K_api_Branch) x0.2.2.2.2.1])], 1⟩
def ref07_Validate_o14_19 : St := ⟨slotsOf [], heapFrom 0 [], 0⟩
def ref07_Validate_s14 (x0 : T_api_TreeAutomaton) (x5 : Int) : St := ⟨slotsOf [(1, .ptr 0 0), (5, .data (.int .i64) x5)], heapFrom 0 [some (.box [.data (.int .i64) x0.1, .data (.int .i64) x0.2.1, .data (.slice (.int .i64)) x0.2.2.1, .data (.slice K_api_Leaf) x0.2.2.2.1, .data (.slice K_api_Branch) x0.2.2.2.2.1])], 1⟩
theorem ref07_Validate_ok {x0 : T_api_TreeAutomaton} {r : Int} (hF : ref07_Validate x0 = some r) : evalLim cx 11 [.data K_api_TreeAutomaton x0] [] = some (.data (.int .i64) r, []) := by
  refine fnG (h := h11) fn11 rfl rfl rfl rfl ?_
  unfold ref07_Validate at hF
  refine wR rfl rfl ?_
  refine W (eBox rfl rfl) rfl ?_
  refine W (eAsg rfl rfl) rfl ?_
  refine wo_end ?_
  refine wp_seq ?_
  refine wRq (M := fun s => ∃ x16, ref07_Validate_q1 x0 x16 = some r ∧ s = ref07_Validate_t1 x0 x16) rfl ?_ ?_
  · refine W (eFaP rfl (fieldAt ty26 rfl rfl ty3 rfl)) rfl ?_
    refine W (eLdP rfl rfl ty3 rfl rfl) rfl ?_
    obtain ⟨r32, e1, hF⟩ := bind_some hF
    refine W (eCall rfl rfl (callS fn22 rfl rfl (hoD rfl ty3 rfl dD (hoD rfl ty3 rfl dD (hoD rfl ty3 rfl dD hoN))) rfl rfl (ref07_within_ok e1))) rfl ?_
    refine W (eUn rfl rfl) rfl ?_
    refine W (eMove rfl rfl) rfl ?_
    refine ifT hF (fun c2 hF => ?_) (fun c2 hF => ?_)
    · refine Wn rfl rfl c2 rfl ?_
      refine Wn rfl rfl c2 rfl ?_
      refine Wn rfl rfl c2 rfl ?_
      refine Wn rfl rfl c2 rfl ?_
      refine W (ePickT rfl c2 rfl) rfl ?_
      refine wo_end ?_
      exact ⟨ref07_Validate_t1 x0 true, by kernel_rfl, true, hF, rfl⟩
    · refine Wy rfl rfl c2 (eFaP rfl (fieldAt ty26 rfl rfl ty3 rfl)) rfl ?_
      refine Wy rfl rfl c2 (eLdP rfl rfl ty3 rfl rfl) rfl ?_
      obtain ⟨r72, e3, hF⟩ := bind_some hF
      refine Wy rfl rfl c2 (eCall rfl rfl (callS fn22 rfl rfl (hoD rfl ty3 rfl dD (hoD rfl ty3 rfl dD (hoD rfl ty3 rfl dD hoN))) rfl rfl (ref07_within_ok e3))) rfl ?_
      refine Wy rfl rfl c2 (eUn rfl rfl) rfl ?_
      refine W (ePickF rfl c2 rfl) rfl ?_
      refine wo_end ?_
      exact ⟨ref07_Validate_t1 x0 (!r72), by kernel_rfl, (!r72), hF, rfl⟩
  · rintro s ⟨x16, hF, rfl⟩
    unfold ref07_Validate_q1 at hF
    refine wIf hF rfl (fun c4 hF => ?_) (fun c4 hF => ?_)
    · refine wR rfl rfl ?_
      refine W (eAsg rfl rfl) rfl ?_
      refine wo_end ?_
      refine wp_ret ?_
      cases hF; exact (And.intro (.inr rfl) (finG rfl rfl (mapC rfl mapN) (fvD rfl ty32 rfl dD fvN) (by kernel_rfl)))
    · refine wp_skip ?_
      refine wp_seq ?_
      refine wR rfl rfl ?_
      refine W (eAsg rfl rfl) rfl ?_
      refine wo_end ?_
      refine wp_block ?_
      obtain ⟨e279, h280, hF⟩ := bind_some hF
      refine wLoop (Rel := fun (x : Int) s => cutAt h11 h11.pre 4 s = some (ref07_Validate_s4 x0 x)) (QE := fun (e : (Unit) ⊕ (Int)) ex s => match e with | (.inl _) => ex = .exit 0 ∧ cutAt h11 h11.pre 8 s = some (ref07_Validate_o4_8 x0) | (.inr r0) => ex = .ret ∧ EndsG cx Try.f11 h11.keep 0 (.data (.int .i64) r0) [] ex s) (fun x o281 s hF hs => ?_) h280 (by show _ = _; kernel_rfl) (fun ex s hq => ?_)
      · revert x; intro x3 hF hs
        unfold ref07_Validate_l4 at hF
        refine wp_seq ?_
        refine wR hs rfl ?_
        refine W (eMove rfl rfl) rfl ?_
        refine W (eFaP rfl (fieldAt ty26 rfl rfl ty22 rfl)) rfl ?_
        refine W (eLdP rfl rfl ty22 rfl rfl) rfl ?_
        refine W (eLen rfl rfl (lenD (isSliceOf ty22 rfl))) rfl ?_
        refine W (eBin rfl rfl rfl) rfl ?_
        refine wo_end ?_
        refine wIf hF rfl (fun c9 hF => ?_) (fun c9 hF => ?_)
        · refine wp_skip ?_
          refine wp_seq ?_
          refine wp_block ?_
          refine wD rfl rfl rfl rfl ?_
          refine W (eFaP rfl (fieldAt ty26 rfl rfl ty22 rfl)) rfl ?_
          refine W (eLdP rfl rfl ty22 rfl rfl) rfl ?_
          refine W (eMove rfl rfl) rfl ?_
          obtain ⟨g10, hF⟩ := gd_some hF
          refine W (eIxD rfl rfl (kindOfTy ty22 rfl) g10) rfl ?_
          refine W (eLdA rfl (kindOfTy ty3 rfl)) rfl ?_
          refine W (eFaP rfl (fieldAt ty26 rfl rfl ty3 rfl)) rfl ?_
          refine W (eLdP rfl rfl ty3 rfl rfl) rfl ?_
          refine W (eBin rfl rfl rfl) rfl ?_
          obtain ⟨r105, e11, hF⟩ := bind_some hF
          refine W (eCall rfl rfl (callS fn22 rfl rfl (hoD rfl ty3 rfl dD (hoD rfl ty3 rfl dD (hoD rfl ty3 rfl dD hoN))) rfl rfl (ref07_within_ok e11))) rfl ?_
          refine W (eUn rfl rfl) rfl ?_
          refine wo_end ?_
          refine wIf hF rfl (fun c12 hF => ?_) (fun c12 hF => ?_)
          · refine wR rfl rfl ?_
            refine W (eAsg rfl rfl) rfl ?_
            refine wo_end ?_
            refine wp_ret ?_
            cases hF; exact And.intro (fun h => nomatch h) (And.intro rfl (And.intro (.inr rfl) (finG rfl rfl (mapC rfl mapN) (fvD rfl ty32 rfl dD fvN) (by kernel_rfl))))
          · refine wp_skip ?_
            refine wR1 rfl rfl ?_
            refine W (eMove rfl rfl) rfl ?_
            refine W (eBin rfl rfl rfl) rfl ?_
            refine W (eAsg rfl rfl) rfl ?_
            refine wo_end ?_
            cases hF; exact And.intro rfl (by show _ = _; kernel_rfl)
        · refine wp_exit ?_
          cases hF; exact And.intro (fun h => nomatch h) (And.intro rfl (by show _ = _; kernel_rfl))
      · rcases e279 with _ | r0
        · obtain ⟨rfl, hs⟩ := hq
          refine wp_seq ?_
          refine wR hs rfl ?_
          refine W (eAsg rfl rfl) rfl ?_
          refine wo_end ?_
          refine wp_block ?_
          obtain ⟨e282, h283, hF⟩ := bind_some hF
          refine wLoop (Rel := fun (x : Int) s => cutAt h11 h11.pre 9 s = some (ref07_Validate_s9 x0 x)) (QE := fun (e : (Unit) ⊕ (Int)) ex s => match e with | (.inl _) => ex = .exit 2 ∧ cutAt h11 h11.pre 13 s = some (ref07_Validate_o9_13 x0) | (.inr r0b) => ex = .ret ∧ EndsG cx Try.f11 h11.keep 0 (.data (.int .i64) r0b) [] ex s) (fun x o284 s hF hs => ?_) h283 (by show _ = _; kernel_rfl) (fun ex s hq => ?_)
          · revert x; intro x4 hF hs
            unfold ref07_Validate_l9 at hF
            refine wp_seq ?_
            refine wR hs rfl ?_
            refine W (eMove rfl rfl) rfl ?_
            refine W (eFaP rfl (fieldAt ty26 rfl rfl ty23 rfl)) rfl ?_
            refine W (eLdP rfl rfl ty23 rfl rfl) rfl ?_
            refine W (eLen rfl rfl (lenD (isSliceOf ty23 rfl))) rfl ?_
            refine W (eBin rfl rfl rfl) rfl ?_
            refine wo_end ?_
            refine wIf hF rfl (fun c19 hF => ?_) (fun c19 hF => ?_)
            · refine wp_skip ?_
              refine wp_seq ?_
              refine wp_block ?_
              refine wDq (M := fun s => ∃ x64, ref07_Validate_q11 x0 x4 x64 = some o284 ∧ s = ref07_Validate_t11 x0 x4 x64) rfl rfl rfl ?_ ?_
              · refine W (eFaP rfl (fieldAt ty26 rfl rfl ty23 rfl)) rfl ?_
                refine W (eLdP rfl rfl ty23 rfl rfl) rfl ?_
                refine W (eMove rfl rfl) rfl ?_
                obtain ⟨g20, hF⟩ := gd_some hF
                refine W (eIxD rfl rfl (kindOfTy ty23 rfl) g20) rfl ?_
                refine W (eFaA rfl (fieldAt ty56 rfl rfl ty3 rfl) rfl rfl rfl) rfl ?_
                refine W (eLdA rfl (kindOfTy ty3 rfl)) rfl ?_
                refine W (eFaP rfl (fieldAt ty26 rfl rfl ty3 rfl)) rfl ?_
                refine W (eLdP rfl rfl ty3 rfl rfl) rfl ?_
                refine W (eBin rfl rfl rfl) rfl ?_
                obtain ⟨r113, e21, hF⟩ := bind_some hF
                refine W (eCall rfl rfl (callS fn22 rfl rfl (hoD rfl ty3 rfl dD (hoD rfl ty3 rfl dD (hoD rfl ty3 rfl dD hoN))) rfl rfl (ref07_within_ok e21))) rfl ?_
                refine W (eUn rfl rfl) rfl ?_
                refine W (eMove rfl rfl) rfl ?_
                refine ifT hF (fun c22 hF => ?_) (fun c22 hF => ?_)
                · refine Wn rfl rfl c22 rfl ?_
                  refine Wn rfl rfl c22 rfl ?_
                  refine Wn rfl rfl c22 rfl ?_
                  refine Wn rfl rfl c22 rfl ?_
                  refine Wn rfl rfl c22 rfl ?_
                  refine Wn rfl rfl c22 rfl ?_
                  refine Wn rfl rfl c22 rfl ?_
                  refine Wn rfl rfl c22 rfl ?_
                  refine Wn rfl rfl c22 rfl ?_
                  refine Wn rfl rfl c22 rfl ?_
                  refine Wn rfl rfl c22 rfl ?_
                  refine W (ePickT rfl c22 rfl) rfl ?_
                  refine wo_end ?_
                  exact ⟨ref07_Validate_t11 x0 x4 true, by kernel_rfl, true, hF, rfl⟩
                · refine Wy rfl rfl c22 (eFaP rfl (fieldAt ty26 rfl rfl ty23 rfl)) rfl ?_
                  refine Wy rfl rfl c22 (eLdP rfl rfl ty23 rfl rfl) rfl ?_
                  refine Wy rfl rfl c22 (eMove rfl rfl) rfl ?_
                  refine Wy rfl rfl c22 (eIxD rfl rfl (kindOfTy ty23 rfl) g20) rfl ?_
                  refine Wy rfl rfl c22 (eFaA rfl (fieldAt ty56 rfl rfl ty3 rfl) rfl rfl rfl) rfl ?_
                  refine Wy rfl rfl c22 (eLdA rfl (kindOfTy ty3 rfl)) rfl ?_
                  refine Wy rfl rfl c22 (eFaP rfl (fieldAt ty26 rfl rfl ty3 rfl)) rfl ?_
                  refine Wy rfl rfl c22 (eLdP rfl rfl ty3 rfl rfl) rfl ?_
                  refine Wy rfl rfl c22 (eBin rfl rfl rfl) rfl ?_
                  obtain ⟨r209, e23, hF⟩ := bind_some hF
                  refine Wy rfl rfl c22 (eCall rfl rfl (callS fn22 rfl rfl (hoD rfl ty3 rfl dD (hoD rfl ty3 rfl dD (hoD rfl ty3 rfl dD hoN))) rfl rfl (ref07_within_ok e23))) rfl ?_
                  refine Wy rfl rfl c22 (eUn rfl rfl) rfl ?_
                  refine W (ePickF rfl c22 rfl) rfl ?_
                  refine wo_end ?_
                  exact ⟨ref07_Validate_t11 x0 x4 (!r209), by kernel_rfl, (!r209), hF, rfl⟩
              · rintro s ⟨x64, hF, rfl⟩
                unfold ref07_Validate_q11 at hF
                refine wIf hF rfl (fun c24 hF => ?_) (fun c24 hF => ?_)
                · refine wR rfl rfl ?_
                  refine W (eAsg rfl rfl) rfl ?_
                  refine wo_end ?_
                  refine wp_ret ?_
                  cases hF; exact And.intro (fun h => nomatch h) (And.intro rfl (And.intro (.inr rfl) (finG rfl rfl (mapC rfl mapN) (fvD rfl ty32 rfl dD fvN) (by kernel_rfl))))
                · refine wp_skip ?_
                  refine wR1 rfl rfl ?_
                  refine W (eMove rfl rfl) rfl ?_
                  refine W (eBin rfl rfl rfl) rfl ?_
                  refine W (eAsg rfl rfl) rfl ?_
                  refine wo_end ?_
                  cases hF; exact And.intro rfl (by show _ = _; kernel_rfl)
            · refine wp_exit ?_
              cases hF; exact And.intro (fun h => nomatch h) (And.intro rfl (by show _ = _; kernel_rfl))
          · rcases e282 with _ | r0b
            · obtain ⟨rfl, hs⟩ := hq
              refine wp_seq ?_
              refine wR hs rfl ?_
              refine W (eAsg rfl rfl) rfl ?_
              refine wo_end ?_
              refine wp_block ?_
              obtain ⟨e285, h286, hF⟩ := bind_some hF
              refine wLoop (Rel := fun (x : Int) s => cutAt h11 h11.pre 14 s = some (ref07_Validate_s14 x0 x)) (QE := fun (e : (Unit) ⊕ (Int)) ex s => match e with | (.inl _) => ex = .exit 4 ∧ cutAt h11 h11.pre 19 s = some (ref07_Validate_o14_19) | (.inr r0c) => ex = .ret ∧ EndsG cx Try.f11 h11.keep 0 (.data (.int .i64) r0c) [] ex s) (fun x o287 s hF hs => ?_) h286 (by show _ = _; kernel_rfl) (fun ex s hq => ?_)
              · revert x; intro x5 hF hs
                unfold ref07_Validate_l14 at hF
                refine wp_seq ?_
                refine wR hs rfl ?_
                refine W (eMove rfl rfl) rfl ?_
                refine W (eFaP rfl (fieldAt ty26 rfl rfl ty24 rfl)) rfl ?_
                refine W (eLdP rfl rfl ty24 rfl rfl) rfl ?_
                refine W (eLen rfl rfl (lenD (isSliceOf ty24 rfl))) rfl ?_
                refine W (eBin rfl rfl rfl) rfl ?_
                refine wo_end ?_
                refine wIf hF rfl (fun c35 hF => ?_) (fun c35 hF => ?_)
                · refine wp_skip ?_
                  refine wp_seq ?_
                  refine wp_block ?_
                  refine wR rfl rfl ?_
                  refine W (eFaP rfl (fieldAt ty26 rfl rfl ty24 rfl)) rfl ?_
                  refine W (eLdP rfl rfl ty24 rfl rfl) rfl ?_
                  refine W (eMove rfl rfl) rfl ?_
                  obtain ⟨g36, hF⟩ := gd_some hF
                  refine W (eIxD rfl rfl (kindOfTy ty24 rfl) g36) rfl ?_
                  refine W (eLdA rfl (kindOfTy ty58 rfl)) rfl ?_
                  refine W (eAlloc zero58) rfl ?_
                  refine W (eStP rfl rfl rfl rfl ty58 rfl rfl) rfl ?_
                  refine wo_end ?_
                  refine wRq (M := fun s => ∃ x110, ref07_Validate_q17 x0 x5 x110 = some o287 ∧ s = ref07_Validate_t17 x0 x5 x110) rfl ?_ ?_
                  · refine W (eFaP rfl (fieldAt ty58 rfl rfl ty3 rfl)) rfl ?_
                    refine W (eLdP rfl rfl ty3 rfl rfl) rfl ?_
                    refine W (eFaP rfl (fieldAt ty26 rfl rfl ty3 rfl)) rfl ?_
                    refine W (eLdP rfl rfl ty3 rfl rfl) rfl ?_
                    refine W (eBin rfl rfl rfl) rfl ?_
                    obtain ⟨r137, e37, hF⟩ := bind_some hF
                    refine W (eCall rfl rfl (callS fn22 rfl rfl (hoD rfl ty3 rfl dD (hoD rfl ty3 rfl dD (hoD rfl ty3 rfl dD hoN))) rfl rfl (ref07_within_ok e37))) rfl ?_
                    refine W (eUn rfl rfl) rfl ?_
                    refine W (eMove rfl rfl) rfl ?_
                    refine ifT hF (fun c38 hF => ?_) (fun c38 hF => ?_)
                    · refine Wn rfl rfl c38 rfl ?_
                      refine Wn rfl rfl c38 rfl ?_
                      refine Wn rfl rfl c38 rfl ?_
                      refine Wn rfl rfl c38 rfl ?_
                      refine Wn rfl rfl c38 rfl ?_
                      refine Wn rfl rfl c38 rfl ?_
                      refine Wn rfl rfl c38 rfl ?_
                      refine W (ePickT rfl c38 rfl) rfl ?_
                      refine W (eMove rfl rfl) rfl ?_
                      refine Wn rfl rfl rfl rfl ?_
                      refine Wn rfl rfl rfl rfl ?_
                      refine Wn rfl rfl rfl rfl ?_
                      refine Wn rfl rfl rfl rfl ?_
                      refine Wn rfl rfl rfl rfl ?_
                      refine Wn rfl rfl rfl rfl ?_
                      refine Wn rfl rfl rfl rfl ?_
                      refine W (ePickT rfl rfl rfl) rfl ?_
                      refine W (eMove rfl rfl) rfl ?_
                      refine Wn rfl rfl rfl rfl ?_
                      refine Wn rfl rfl rfl rfl ?_
                      refine Wn rfl rfl rfl rfl ?_
                      refine Wn rfl rfl rfl rfl ?_
                      refine Wn rfl rfl rfl rfl ?_
                      refine Wn rfl rfl rfl rfl ?_
                      refine Wn rfl rfl rfl rfl ?_
                      refine W (ePickT rfl rfl rfl) rfl ?_
                      refine wo_end ?_
                      exact ⟨ref07_Validate_t17 x0 x5 true, by kernel_rfl, true, hF, rfl⟩
                    · refine Wy rfl rfl c38 (eFaP rfl (fieldAt ty58 rfl rfl ty3 rfl)) rfl ?_
                      refine Wy rfl rfl c38 (eLdP rfl rfl ty3 rfl rfl) rfl ?_
                      refine Wy rfl rfl c38 (eFaP rfl (fieldAt ty26 rfl rfl ty3 rfl)) rfl ?_
                      refine Wy rfl rfl c38 (eLdP rfl rfl ty3 rfl rfl) rfl ?_
                      refine Wy rfl rfl c38 (eBin rfl rfl rfl) rfl ?_
                      obtain ⟨r201, e39, hF⟩ := bind_some hF
                      refine Wy rfl rfl c38 (eCall rfl rfl (callS fn22 rfl rfl (hoD rfl ty3 rfl dD (hoD rfl ty3 rfl dD (hoD rfl ty3 rfl dD hoN))) rfl rfl (ref07_within_ok e39))) rfl ?_
                      refine Wy rfl rfl c38 (eUn rfl rfl) rfl ?_
                      refine W (ePickF rfl c38 rfl) rfl ?_
                      refine W (eMove rfl rfl) rfl ?_
                      refine ifT hF (fun c40 hF => ?_) (fun c40 hF => ?_)
                      · refine Wn rfl rfl c40 rfl ?_
                        refine Wn rfl rfl c40 rfl ?_
                        refine Wn rfl rfl c40 rfl ?_
                        refine Wn rfl rfl c40 rfl ?_
                        refine Wn rfl rfl c40 rfl ?_
                        refine Wn rfl rfl c40 rfl ?_
                        refine Wn rfl rfl c40 rfl ?_
                        refine W (ePickT rfl c40 rfl) rfl ?_
                        refine W (eMove rfl rfl) rfl ?_
                        refine Wn rfl rfl rfl rfl ?_
                        refine Wn rfl rfl rfl rfl ?_
                        refine Wn rfl rfl rfl rfl ?_
                        refine Wn rfl rfl rfl rfl ?_
                        refine Wn rfl rfl rfl rfl ?_
                        refine Wn rfl rfl rfl rfl ?_
                        refine Wn rfl rfl rfl rfl ?_
                        refine W (ePickT rfl rfl rfl) rfl ?_
                        refine wo_end ?_
                        exact ⟨ref07_Validate_t17 x0 x5 true, by kernel_rfl, true, hF, rfl⟩
                      · refine Wy rfl rfl c40 (eFaP rfl (fieldAt ty58 rfl rfl ty3 rfl)) rfl ?_
                        refine Wy rfl rfl c40 (eLdP rfl rfl ty3 rfl rfl) rfl ?_
                        refine Wy rfl rfl c40 (eFaP rfl (fieldAt ty26 rfl rfl ty3 rfl)) rfl ?_
                        refine Wy rfl rfl c40 (eLdP rfl rfl ty3 rfl rfl) rfl ?_
                        refine Wy rfl rfl c40 (eBin rfl rfl rfl) rfl ?_
                        obtain ⟨r273, e41, hF⟩ := bind_some hF
                        refine Wy rfl rfl c40 (eCall rfl rfl (callS fn22 rfl rfl (hoD rfl ty3 rfl dD (hoD rfl ty3 rfl dD (hoD rfl ty3 rfl dD hoN))) rfl rfl (ref07_within_ok e41))) rfl ?_
                        refine Wy rfl rfl c40 (eUn rfl rfl) rfl ?_
                        refine W (ePickF rfl c40 rfl) rfl ?_
                        refine W (eMove rfl rfl) rfl ?_
                        refine ifT hF (fun c42 hF => ?_) (fun c42 hF => ?_)
                        · refine Wn rfl rfl c42 rfl ?_
                          refine Wn rfl rfl c42 rfl ?_
                          refine Wn rfl rfl c42 rfl ?_
                          refine Wn rfl rfl c42 rfl ?_
                          refine Wn rfl rfl c42 rfl ?_
                          refine Wn rfl rfl c42 rfl ?_
                          refine Wn rfl rfl c42 rfl ?_
                          refine W (ePickT rfl c42 rfl) rfl ?_
                          refine wo_end ?_
                          exact ⟨ref07_Validate_t17 x0 x5 true, by kernel_rfl, true, hF, rfl⟩
                        · refine Wy rfl rfl c42 (eFaP rfl (fieldAt ty58 rfl rfl ty3 rfl)) rfl ?_
                          refine Wy rfl rfl c42 (eLdP rfl rfl ty3 rfl rfl) rfl ?_
                          refine Wy rfl rfl c42 (eFaP rfl (fieldAt ty26 rfl rfl ty3 rfl)) rfl ?_
                          refine Wy rfl rfl c42 (eLdP rfl rfl ty3 rfl rfl) rfl ?_
                          refine Wy rfl rfl c42 (eBin rfl rfl rfl) rfl ?_
                          obtain ⟨r345, e43, hF⟩ := bind_some hF
                          refine Wy rfl rfl c42 (eCall rfl rfl (callS fn22 rfl rfl (hoD rfl ty3 rfl dD (hoD rfl ty3 rfl dD (hoD rfl ty3 rfl dD hoN))) rfl rfl (ref07_within_ok e43))) rfl ?_
                          refine Wy rfl rfl c42 (eUn rfl rfl) rfl ?_
                          refine W (ePickF rfl c42 rfl) rfl ?_
                          refine wo_end ?_
                          exact ⟨ref07_Validate_t17 x0 x5 (!r345), by kernel_rfl, (!r345), hF, rfl⟩
                  · rintro s ⟨x110, hF, rfl⟩
                    unfold ref07_Validate_q17 at hF
                    refine wIf hF rfl (fun c44 hF => ?_) (fun c44 hF => ?_)
                    · refine wR rfl rfl ?_
                      refine W (eAsg rfl rfl) rfl ?_
                      refine wo_end ?_
                      refine wp_ret ?_
                      cases hF; exact And.intro (fun h => nomatch h) (And.intro rfl (And.intro (.inr rfl) (finG rfl rfl (mapC rfl mapN) (fvD rfl ty32 rfl dD fvN) (by kernel_rfl))))
                    · refine wp_skip ?_
                      refine wR1 rfl rfl ?_
                      refine W (eMove rfl rfl) rfl ?_
                      refine W (eBin rfl rfl rfl) rfl ?_
                      refine W (eAsg rfl rfl) rfl ?_
                      refine wo_end ?_
                      cases hF; exact And.intro rfl (by show _ = _; kernel_rfl)
                · refine wp_exit ?_
                  cases hF; exact And.intro (fun h => nomatch h) (And.intro rfl (by show _ = _; kernel_rfl))
              · rcases e285 with _ | r0c
                · obtain ⟨rfl, hs⟩ := hq
                  refine wR hs rfl ?_
                  refine W (eAsg rfl rfl) rfl ?_
                  refine wo_end ?_
                  refine wp_ret ?_
                  cases hF; exact (And.intro (.inr rfl) (finG rfl rfl (mapC rfl mapN) (fvD rfl ty32 rfl dD fvN) (by kernel_rfl)))
                · obtain ⟨rfl, hq⟩ := hq
                  cases hF; exact hq
            · obtain ⟨rfl, hq⟩ := hq
              cases hF; exact hq
        · obtain ⟨rfl, hq⟩ := hq
          cases hF; exact hq

end Go.Lite.Fam
end

section
set_option linter.unusedVariables false
set_option linter.unusedSimpArgs false
set_option maxRecDepth 100000
set_option maxHeartbeats 20000000
namespace Go.Lite.Fam
open Go Go.Lite Go.Proofs

def ref03_IsShape_t5 (x0 : (List Int)) (x3 : Int) (x4 : Int) (x26 : Bool) : St := ⟨slotsOf [(0, .data (.slice (.int .i64)) x0), (3, .data (.int .i64) x3), (4, .data (.int .i64) x4), (26, .data .bool x26)], heapFrom 0 [], 0⟩
def ref03_IsShape_o3_8 (x3b : Int) : St := ⟨slotsOf [(3, .data (.int .i64) x3b)], heapFrom 0 [], 0⟩
def ref03_IsShape_s3 (x0 : (List Int)) (x3 : Int) (x4 : Int) : St := ⟨slotsOf [(0, .data (.slice (.int .i64)) x0), (3, .data (.int .i64) x3), (4, .data (.int .i64) x4)], heapFrom 0 [], 0⟩
theorem ref03_IsShape_ok {x0 : (List Int)} {r : Bool} (hF : ref03_IsShape x0 = some r) : evalLim cx 27 [.data (.slice (.int .i64)) x0] [] = some (.data .bool r, []) := by
  refine fnG (h := h27) fn27 rfl rfl rfl rfl ?_
  unfold ref03_IsShape at hF
  refine wR rfl rfl ?_
  refine W (eAsg rfl rfl) rfl ?_
  refine wo_end ?_
  refine wR rfl rfl ?_
  refine W (eAsg rfl rfl) rfl ?_
  refine wo_end ?_
  refine wp_seq ?_
  refine wR rfl rfl ?_
  refine W (eAsg rfl rfl) rfl ?_
  refine wo_end ?_
  refine wp_block ?_
  obtain ⟨e91, h92, hF⟩ := bind_some hF
  refine wLoop (Rel := fun (x : Int × Int) s => cutAt h27 h27.pre 3 s = some (ref03_IsShape_s3 x0 x.1 x.2)) (QE := fun (e : (Int) ⊕ (Bool)) ex s => match e with | (.inl x3b) => ex = .exit 0 ∧ cutAt h27 h27.pre 8 s = some (ref03_IsShape_o3_8 x3b) | (.inr r0) => ex = .ret ∧ EndsG cx Try.f27 h27.keep 0 (.data .bool r0) [] ex s) (fun x o93 s hF hs => ?_) h92 (by show _ = _; kernel_rfl) (fun ex s hq => ?_)
  · obtain ⟨x3, x4⟩ := x
    unfold ref03_IsShape_l3 at hF
    refine wp_seq ?_
    refine wR hs rfl ?_
    refine W (eMove rfl rfl) rfl ?_
    refine W (eMove rfl rfl) rfl ?_
    refine W (eLen rfl rfl (lenD (isSliceOf ty22 rfl))) rfl ?_
    refine W (eBin rfl rfl rfl) rfl ?_
    refine wo_end ?_
    refine wIf hF rfl (fun c7 hF => ?_) (fun c7 hF => ?_)
    · refine wp_skip ?_
      refine wp_seq ?_
      refine wp_block ?_
      refine wp_seq ?_
      refine wRq (M := fun s => ∃ x26, ref03_IsShape_q5 x0 x3 x4 x26 = some o93 ∧ s = ref03_IsShape_t5 x0 x3 x4 x26) rfl ?_ ?_
      · refine W (eMove rfl rfl) rfl ?_
        refine W (eBin rfl rfl rfl) rfl ?_
        refine W (eMove rfl rfl) rfl ?_
        refine ifT hF (fun c8 hF => ?_) (fun c8 hF => ?_)
        · refine Wn rfl rfl c8 rfl ?_
          refine Wn rfl rfl c8 rfl ?_
          refine Wn rfl rfl c8 rfl ?_
          refine Wn rfl rfl c8 rfl ?_
          refine Wn rfl rfl c8 rfl ?_
          refine Wn rfl rfl c8 rfl ?_
          refine Ws rfl rfl rfl ?_
          refine Ws rfl rfl rfl ?_
          refine Ws rfl rfl rfl ?_
          refine Ws rfl rfl rfl ?_
          refine Ws rfl rfl rfl ?_
          refine Wn rfl rfl c8 rfl ?_
          refine W (ePickT rfl c8 rfl) rfl ?_
          refine wo_end ?_
          exact ⟨ref03_IsShape_t5 x0 x3 x4 true, by kernel_rfl, true, hF, rfl⟩
        · refine Wy rfl rfl c8 (eMove rfl rfl) rfl ?_
          refine Wy rfl rfl c8 (eMove rfl rfl) rfl ?_
          obtain ⟨g9, hF⟩ := gd_some hF
          refine Wy rfl rfl c8 (eIxD rfl rfl (kindOfTy ty22 rfl) g9) rfl ?_
          refine Wy rfl rfl c8 (eLdA rfl (kindOfTy ty3 rfl)) rfl ?_
          refine Wy rfl rfl c8 (eBin rfl rfl rfl) rfl ?_
          refine Wy rfl rfl c8 (eMove rfl rfl) rfl ?_
          refine ifT hF (fun c10 hF => ?_) (fun c10 hF => ?_)
          · refine Wy rfl rfl c10 (eMove rfl rfl) rfl ?_
            refine Wy rfl rfl c10 (eMove rfl rfl) rfl ?_
            refine Wy rfl rfl c10 (eIxD rfl rfl (kindOfTy ty22 rfl) g9) rfl ?_
            refine Wy rfl rfl c10 (eLdA rfl (kindOfTy ty3 rfl)) rfl ?_
            refine Wy rfl rfl c10 (eBin rfl rfl rfl) rfl ?_
            refine Wy rfl rfl c8 (ePickT rfl c10 rfl) rfl ?_
            refine W (ePickF rfl c8 rfl) rfl ?_
            refine wo_end ?_
            exact ⟨ref03_IsShape_t5 x0 x3 x4 ((x0.getD x4.toNat (0 : Int)) != (2 : Int)), by kernel_rfl, ((x0.getD x4.toNat (0 : Int)) != (2 : Int)), hF, rfl⟩
          · refine Wn rfl rfl c10 rfl ?_
            refine Wn rfl rfl c10 rfl ?_
            refine Wn rfl rfl c10 rfl ?_
            refine Wn rfl rfl c10 rfl ?_
            refine Wn rfl rfl c10 rfl ?_
            refine Wy rfl rfl c8 (ePickF rfl c10 rfl) rfl ?_
            refine W (ePickF rfl c8 rfl) rfl ?_
            refine wo_end ?_
            exact ⟨ref03_IsShape_t5 x0 x3 x4 false, by kernel_rfl, false, hF, rfl⟩
      · rintro s ⟨x26, hF, rfl⟩
        unfold ref03_IsShape_q5 at hF
        refine wIf hF rfl (fun c11 hF => ?_) (fun c11 hF => ?_)
        · refine wR rfl rfl ?_
          refine W (eAsg rfl rfl) rfl ?_
          refine wo_end ?_
          refine wp_ret ?_
          cases hF; exact And.intro (fun h => nomatch h) (And.intro rfl (And.intro (.inr rfl) (finG rfl rfl (mapC rfl mapN) (fvD rfl ty4 rfl dD fvN) (by kernel_rfl))))
        · refine wp_skip ?_
          refine wR1 rfl rfl ?_
          refine W (eMove rfl rfl) rfl ?_
          refine W (eMove rfl rfl) rfl ?_
          refine W (eMove rfl rfl) rfl ?_
          obtain ⟨g12, hF⟩ := gd_some hF
          refine W (eIxD rfl rfl (kindOfTy ty22 rfl) g12) rfl ?_
          refine W (eLdA rfl (kindOfTy ty3 rfl)) rfl ?_
          refine W (eBin rfl rfl rfl) rfl ?_
          refine W (eBin rfl rfl rfl) rfl ?_
          refine W (eAsg rfl rfl) rfl ?_
          refine wo_end ?_
          refine wR1 rfl rfl ?_
          refine W (eMove rfl rfl) rfl ?_
          refine W (eBin rfl rfl rfl) rfl ?_
          refine W (eAsg rfl rfl) rfl ?_
          refine wo_end ?_
          cases hF; exact And.intro rfl (by show _ = _; kernel_rfl)
    · refine wp_exit ?_
      cases hF; exact And.intro (fun h => nomatch h) (And.intro rfl (by show _ = _; kernel_rfl))
  · rcases e91 with x3b | r0
    · obtain ⟨rfl, hs⟩ := hq
      refine wR hs rfl ?_
      refine W (eMove rfl rfl) rfl ?_
      refine W (eBin rfl rfl rfl) rfl ?_
      refine W (eAsg rfl rfl) rfl ?_
      refine wo_end ?_
      refine wp_ret ?_
      cases hF; exact (And.intro (.inr rfl) (finG rfl rfl (mapC rfl mapN) (fvD rfl ty4 rfl dD fvN) (by kernel_rfl)))
    · obtain ⟨rfl, hq⟩ := hq
      cases hF; exact hq

end Go.Lite.Fam
end

section
set_option linter.unusedVariables false
set_option linter.unusedSimpArgs false
set_option maxRecDepth 100000
set_option maxHeartbeats 20000000
namespace Go.Lite.Fam
open Go Go.Lite Go.Proofs

def ref07_ValidTree_t1 (x0 : Int) (x2 : (List Int)) (x23 : Bool) : St := ⟨slotsOf [(0, .data (.int .i64) x0), (2, .data (.slice (.int .i64)) x2), (23, .data .bool x23)], heapFrom 0 [], 0⟩
def ref07_ValidTree_t6 (x0 : Int) (x2 : (List Int)) (x7 : Int) (x42 : Bool) : St := ⟨slotsOf [(0, .data (.int .i64) x0), (2, .data (.slice (.int .i64)) x2), (7, .data (.int .i64) x7), (42, .data .bool x42)], heapFrom 0 [], 0⟩
def ref07_ValidTree_o4_8 : St := ⟨slotsOf [], heapFrom 0 [], 0⟩
def ref07_ValidTree_s4 (x0 : Int) (x2 : (List Int)) (x7 : Int) : St := ⟨slotsOf [(0, .data (.int .i64) x0), (2, .data (.slice (.int .i64)) x2), (7, .data (.int .i64) x7)], heapFrom 0 [], 0⟩
theorem ref07_ValidTree_ok {x0 : Int} {x1 : (List Int)} {x2 : (List Int)} {r : Bool} (hF : ref07_ValidTree x0 x1 x2 = some r) : evalLim cx 18 [.data (.int .i64) x0, .data (.slice (.int .i64)) x1, .data (.slice (.int .i64)) x2] [] = some (.data .bool r, []) := by
  refine fnG (h := h18) fn18 rfl rfl rfl rfl ?_
  unfold ref07_ValidTree at hF
  refine wR rfl rfl ?_
  refine W (eAsg rfl rfl) rfl ?_
  refine wo_end ?_
  refine wp_seq ?_
  refine wRq (M := fun s => ∃ x23, ref07_ValidTree_q1 x0 x2 x23 = some r ∧ s = ref07_ValidTree_t1 x0 x2 x23) rfl ?_ ?_
  · refine W (eMove rfl rfl) rfl ?_
    refine W (eLen rfl rfl (lenD (isSliceOf ty22 rfl))) rfl ?_
    obtain ⟨r24, e1, hF⟩ := bind_some hF
    refine W (eCall rfl rfl (callS fn22 rfl rfl (hoD rfl ty3 rfl dD (hoD rfl ty3 rfl dD (hoD rfl ty3 rfl dD hoN))) rfl rfl (ref07_within_ok e1))) rfl ?_
    refine W (eUn rfl rfl) rfl ?_
    refine W (eMove rfl rfl) rfl ?_
    refine ifT hF (fun c2 hF => ?_) (fun c2 hF => ?_)
    · refine Wn rfl rfl c2 rfl ?_
      refine Wn rfl rfl c2 rfl ?_
      refine Wn rfl rfl c2 rfl ?_
      refine Wn rfl rfl c2 rfl ?_
      refine Wn rfl rfl c2 rfl ?_
      refine W (ePickT rfl c2 rfl) rfl ?_
      refine W (eMove rfl rfl) rfl ?_
      refine Wn rfl rfl rfl rfl ?_
      refine Wn rfl rfl rfl rfl ?_
      refine Wn rfl rfl rfl rfl ?_
      refine W (ePickT rfl rfl rfl) rfl ?_
      refine wo_end ?_
      exact ⟨ref07_ValidTree_t1 x0 x2 true, by kernel_rfl, true, hF, rfl⟩
    · refine Wy rfl rfl c2 (eMove rfl rfl) rfl ?_
      refine Wy rfl rfl c2 (eLen rfl rfl (lenD (isSliceOf ty22 rfl))) rfl ?_
      refine Wy rfl rfl c2 (eMove rfl rfl) rfl ?_
      refine Wy rfl rfl c2 (eLen rfl rfl (lenD (isSliceOf ty22 rfl))) rfl ?_
      refine Wy rfl rfl c2 (eBin rfl rfl rfl) rfl ?_
      refine W (ePickF rfl c2 rfl) rfl ?_
      refine W (eMove rfl rfl) rfl ?_
      refine ifT hF (fun c3 hF => ?_) (fun c3 hF => ?_)
      · refine Wn rfl rfl c3 rfl ?_
        refine Wn rfl rfl c3 rfl ?_
        refine Wn rfl rfl c3 rfl ?_
        refine W (ePickT rfl c3 rfl) rfl ?_
        refine wo_end ?_
        exact ⟨ref07_ValidTree_t1 x0 x2 true, by kernel_rfl, true, hF, rfl⟩
      · refine Wy rfl rfl c3 (eMove rfl rfl) rfl ?_
        obtain ⟨r112, e4, hF⟩ := bind_some hF
        refine Wy rfl rfl c3 (eCall rfl rfl (callS fn27 rfl rfl (hoD rfl ty22 rfl dD hoN) rfl rfl (ref03_IsShape_ok e4))) rfl ?_
        refine Wy rfl rfl c3 (eUn rfl rfl) rfl ?_
        refine W (ePickF rfl c3 rfl) rfl ?_
        refine wo_end ?_
        exact ⟨ref07_ValidTree_t1 x0 x2 (!r112), by kernel_rfl, (!r112), hF, rfl⟩
  · rintro s ⟨x23, hF, rfl⟩
    unfold ref07_ValidTree_q1 at hF
    refine wIf hF rfl (fun c5 hF => ?_) (fun c5 hF => ?_)
    · refine wR rfl rfl ?_
      refine W (eAsg rfl rfl) rfl ?_
      refine wo_end ?_
      refine wp_ret ?_
      cases hF; exact (And.intro (.inr rfl) (finG rfl rfl (mapC rfl mapN) (fvD rfl ty4 rfl dD fvN) (by kernel_rfl)))
    · refine wp_skip ?_
      refine wp_seq ?_
      refine wR rfl rfl ?_
      refine W (eAsg rfl rfl) rfl ?_
      refine wo_end ?_
      refine wp_block ?_
      obtain ⟨e92, h93, hF⟩ := bind_some hF
      refine wLoop (Rel := fun (x : Int) s => cutAt h18 h18.pre 4 s = some (ref07_ValidTree_s4 x0 x2 x)) (QE := fun (e : (Unit) ⊕ (Bool)) ex s => match e with | (.inl _) => ex = .exit 0 ∧ cutAt h18 h18.pre 8 s = some (ref07_ValidTree_o4_8) | (.inr r0) => ex = .ret ∧ EndsG cx Try.f18 h18.keep 0 (.data .bool r0) [] ex s) (fun x o94 s hF hs => ?_) h93 (by show _ = _; kernel_rfl) (fun ex s hq => ?_)
      · revert x; intro x7 hF hs
        unfold ref07_ValidTree_l4 at hF
        refine wp_seq ?_
        refine wR hs rfl ?_
        refine W (eMove rfl rfl) rfl ?_
        refine W (eMove rfl rfl) rfl ?_
        refine W (eLen rfl rfl (lenD (isSliceOf ty22 rfl))) rfl ?_
        refine W (eBin rfl rfl rfl) rfl ?_
        refine wo_end ?_
        refine wIf hF rfl (fun c10 hF => ?_) (fun c10 hF => ?_)
        · refine wp_skip ?_
          refine wp_seq ?_
          refine wp_block ?_
          refine wRq (M := fun s => ∃ x42, ref07_ValidTree_q6 x0 x2 x7 x42 = some o94 ∧ s = ref07_ValidTree_t6 x0 x2 x7 x42) rfl ?_ ?_
          · refine W (eMove rfl rfl) rfl ?_
            refine W (eMove rfl rfl) rfl ?_
            obtain ⟨g11, hF⟩ := gd_some hF
            refine W (eIxD rfl rfl (kindOfTy ty22 rfl) g11) rfl ?_
            refine W (eLdA rfl (kindOfTy ty3 rfl)) rfl ?_
            refine W (eBin rfl rfl rfl) rfl ?_
            refine W (eMove rfl rfl) rfl ?_
            refine ifT hF (fun c12 hF => ?_) (fun c12 hF => ?_)
            · refine Wn rfl rfl c12 rfl ?_
              refine Wn rfl rfl c12 rfl ?_
              refine Wn rfl rfl c12 rfl ?_
              refine Wn rfl rfl c12 rfl ?_
              refine Wn rfl rfl c12 rfl ?_
              refine Wn rfl rfl c12 rfl ?_
              refine W (ePickT rfl c12 rfl) rfl ?_
              refine wo_end ?_
              exact ⟨ref07_ValidTree_t6 x0 x2 x7 true, by kernel_rfl, true, hF, rfl⟩
            · refine Wy rfl rfl c12 (eMove rfl rfl) rfl ?_
              refine Wy rfl rfl c12 (eMove rfl rfl) rfl ?_
              refine Wy rfl rfl c12 (eIxD rfl rfl (kindOfTy ty22 rfl) g11) rfl ?_
              refine Wy rfl rfl c12 (eLdA rfl (kindOfTy ty3 rfl)) rfl ?_
              refine Wy rfl rfl c12 (eMove rfl rfl) rfl ?_
              refine Wy rfl rfl c12 (eBin rfl rfl rfl) rfl ?_
              refine W (ePickF rfl c12 rfl) rfl ?_
              refine wo_end ?_
              exact ⟨ref07_ValidTree_t6 x0 x2 x7 (decide ((x2.getD x7.toNat (0 : Int)) ≥ x0)), by kernel_rfl, (decide ((x2.getD x7.toNat (0 : Int)) ≥ x0)), hF, rfl⟩
          · rintro s ⟨x42, hF, rfl⟩
            unfold ref07_ValidTree_q6 at hF
            refine wIf hF rfl (fun c13 hF => ?_) (fun c13 hF => ?_)
            · refine wR rfl rfl ?_
              refine W (eAsg rfl rfl) rfl ?_
              refine wo_end ?_
              refine wp_ret ?_
              cases hF; exact And.intro (fun h => nomatch h) (And.intro rfl (And.intro (.inr rfl) (finG rfl rfl (mapC rfl mapN) (fvD rfl ty4 rfl dD fvN) (by kernel_rfl))))
            · refine wp_skip ?_
              refine wR1 rfl rfl ?_
              refine W (eMove rfl rfl) rfl ?_
              refine W (eBin rfl rfl rfl) rfl ?_
              refine W (eAsg rfl rfl) rfl ?_
              refine wo_end ?_
              cases hF; exact And.intro rfl (by show _ = _; kernel_rfl)
        · refine wp_exit ?_
          cases hF; exact And.intro (fun h => nomatch h) (And.intro rfl (by show _ = _; kernel_rfl))
      · rcases e92 with _ | r0
        · obtain ⟨rfl, hs⟩ := hq
          refine wR hs rfl ?_
          refine W (eAsg rfl rfl) rfl ?_
          refine wo_end ?_
          refine wp_ret ?_
          cases hF; exact (And.intro (.inr rfl) (finG rfl rfl (mapC rfl mapN) (fvD rfl ty4 rfl dD fvN) (by kernel_rfl)))
        · obtain ⟨rfl, hq⟩ := hq
          cases hF; exact hq

end Go.Lite.Fam
end

section
set_option linter.unusedVariables false
set_option linter.unusedSimpArgs false
set_option maxRecDepth 100000
set_option maxHeartbeats 20000000
namespace Go.Lite.Fam
open Go Go.Lite Go.Proofs

def ref07_leaf_s4 (x0 : T_api_TreeAutomaton) (x1 : Int) (x6 : Int) (x5b : (List Bool)) : St := ⟨slotsOf [(1, .data (.int .i64) x1), (2, .ptr 0 0), (5, .sl 1 0 [] (0 : Int) x0.2.1), (6, .data (.int .i64) x6)], heapFrom 0 [some (.box [.data (.int .i64) x0.1, .data (.int .i64) x0.2.1, .data (.slice (.int .i64)) x0.2.2.1, .data (.slice K_api_Leaf) x0.2.2.2.1, .data (.slice K_api_Branch) x0.2.2.2.2.1]), some (.arr .no .bool x5b 0 none)], 2⟩
def ref07_leaf_o3_7 (x0 : T_api_TreeAutomaton) (x5c : (List Bool)) : St := ⟨slotsOf [(5, .sl 0 0 [] (0 : Int) x0.2.1)], heapFrom 0 [some (.arr .no .bool x5c 0 none)], 1⟩
def ref07_leaf_s3 (x0 : T_api_TreeAutomaton) (x1 : Int) (x5 : (List Bool)) (x6 : Int) : St := ⟨slotsOf [(1, .data (.int .i64) x1), (2, .ptr 0 0), (5, .sl 1 0 [] (0 : Int) x0.2.1), (6, .data (.int .i64) x6)], heapFrom 0 [some (.box [.data (.int .i64) x0.1, .data (.int .i64) x0.2.1, .data (.slice (.int .i64)) x0.2.2.1, .data (.slice K_api_Leaf) x0.2.2.2.1, .data (.slice K_api_Branch) x0.2.2.2.2.1]), some (.arr .no .bool x5 0 none)], 2⟩
theorem ref07_leaf_ok {x0 : T_api_TreeAutomaton} {x1 : Int} {r : (List Bool)} (hF : ref07_leaf x0 x1 = some r) : evalLim cx 28 [.data K_api_TreeAutomaton x0, .data (.int .i64) x1] [] = some (.data (.slice .bool) r, []) := by
  refine fnG (h := h28) fn28 rfl rfl rfl rfl ?_
  unfold ref07_leaf at hF
  refine wR rfl rfl ?_
  refine W (eBox rfl rfl) rfl ?_
  refine W (eNilA rfl ty66 rfl (nilPlain rfl)) rfl ?_
  refine wo_end ?_
  refine wR rfl rfl ?_
  refine W (eFaP rfl (fieldAt ty26 rfl rfl ty3 rfl)) rfl ?_
  refine W (eLdP rfl rfl ty3 rfl rfl) rfl ?_
  obtain ⟨g1, hF⟩ := gd_some hF
  refine W (eMk rfl rfl (elemOf ty66 rfl ty4 rfl) rfl g1) rfl ?_
  refine W (eAsg rfl rfl) rfl ?_
  refine wo_end ?_
  refine wp_seq ?_
  refine wR rfl rfl ?_
  refine W (eAsg rfl rfl) rfl ?_
  refine wo_end ?_
  refine wp_block ?_
  obtain ⟨e88, h89, hF⟩ := bind_some hF
  refine wLoop (Rel := fun (x : (List Bool) × Int) s => cutAt h28 h28.pre 3 s = some (ref07_leaf_s3 x0 x1 x.1 x.2)) (QE := fun (e : (List Bool)) ex s => match e with | x5c => ex = .exit 0 ∧ cutAt h28 h28.pre 7 s = some (ref07_leaf_o3_7 x0 x5c)) (fun x o90 s hF hs => ?_) h89 (by show _ = _; kernel_rfl) (fun ex s hq => ?_)
  · obtain ⟨x5, x6⟩ := x
    unfold ref07_leaf_l3 at hF
    refine wp_seq ?_
    refine wR hs rfl ?_
    refine W (eMove rfl rfl) rfl ?_
    refine W (eFaP rfl (fieldAt ty26 rfl rfl ty23 rfl)) rfl ?_
    refine W (eLdP rfl rfl ty23 rfl rfl) rfl ?_
    refine W (eLen rfl rfl (lenD (isSliceOf ty23 rfl))) rfl ?_
    refine W (eBin rfl rfl rfl) rfl ?_
    refine wo_end ?_
    refine wIf hF rfl (fun c6 hF => ?_) (fun c6 hF => ?_)
    · refine wp_skip ?_
      refine wp_part (fun s => ∃ x5b, ref07_leaf_j4 x0 x1 x6 x5b = some o90 ∧ cutAt h28 h28.pre 4 s = some (ref07_leaf_s4 x0 x1 x6 x5b)) ?_ ?_
      · refine wp_block ?_
        refine wR rfl rfl ?_
        refine W (eFaP rfl (fieldAt ty26 rfl rfl ty23 rfl)) rfl ?_
        refine W (eLdP rfl rfl ty23 rfl rfl) rfl ?_
        refine W (eMove rfl rfl) rfl ?_
        obtain ⟨g7, hF⟩ := gd_some hF
        refine W (eIxD rfl rfl (kindOfTy ty23 rfl) g7) rfl ?_
        refine W (eFaA rfl (fieldAt ty56 rfl rfl ty3 rfl) rfl rfl rfl) rfl ?_
        refine W (eLdA rfl (kindOfTy ty3 rfl)) rfl ?_
        refine W (eMove rfl rfl) rfl ?_
        refine W (eBin rfl rfl rfl) rfl ?_
        refine wo_end ?_
        refine wIf hF rfl (fun c8 hF => ?_) (fun c8 hF => ?_)
        · refine wR1 rfl rfl ?_
          refine W (eMove rfl rfl) rfl ?_
          refine W (eFaP rfl (fieldAt ty26 rfl rfl ty23 rfl)) rfl ?_
          refine W (eLdP rfl rfl ty23 rfl rfl) rfl ?_
          refine W (eMove rfl rfl) rfl ?_
          refine W (eIxD rfl rfl (kindOfTy ty23 rfl) g7) rfl ?_
          refine W (eFaA rfl (fieldAt ty56 rfl rfl ty3 rfl) rfl rfl rfl) rfl ?_
          refine W (eLdA rfl (kindOfTy ty3 rfl)) rfl ?_
          obtain ⟨g9, hF⟩ := gd_some hF
          refine W (eIxS rfl rfl rfl (kindOfTy ty66 rfl) g9) rfl ?_
          refine W (eStE rfl rfl rfl rfl rfl (kindOfTy ty4 rfl) rfl absD rfl rfl) rfl ?_
          refine wo_end ?_
          exact ⟨(x5.set ((x0.2.2.2.1.getD x6.toNat (Z_api_Leaf)).2.1).toNat true), hF, by kernel_rfl⟩
        · refine wp_skip ?_
          exact ⟨x5, hF, by kernel_rfl⟩
      · rintro s ⟨x5b, hF, hs⟩
        unfold ref07_leaf_j4 at hF
        refine wR1 hs rfl ?_
        refine W (eMove rfl rfl) rfl ?_
        refine W (eBin rfl rfl rfl) rfl ?_
        refine W (eAsg rfl rfl) rfl ?_
        refine wo_end ?_
        cases hF; exact And.intro rfl (by show _ = _; kernel_rfl)
    · refine wp_exit ?_
      cases hF; exact And.intro (fun h => nomatch h) (And.intro rfl (by show _ = _; kernel_rfl))
  · revert e88; intro x5c h89 hF hq
    obtain ⟨rfl, hs⟩ := hq
    refine wR hs rfl ?_
    refine W (eMove rfl rfl) rfl ?_
    refine W (eAsg rfl rfl) rfl ?_
    refine wo_end ?_
    refine wp_ret ?_
    cases hF; exact (And.intro (.inr rfl) (finG rfl rfl (mapC rfl mapN) (fvD rfl ty66 rfl (asData_cont (k := .bool) (contS (k := .bool) (r := 0) (xs := x5c) rfl)) fvN) (by kernel_rfl)))

end Go.Lite.Fam
end

section
set_option linter.unusedVariables false
set_option linter.unusedSimpArgs false
set_option maxRecDepth 100000
set_option maxHeartbeats 20000000
namespace Go.Lite.Fam
open Go Go.Lite Go.Proofs

def ref07_branch_t6 (x0 : T_api_TreeAutomaton) (x1 : Int) (x2 : (List Bool)) (x3 : (List Bool)) (x9 : (List Bool)) (x10 : Int) (x44 : Bool) : St := ⟨slotsOf [(1, .data (.int .i64) x1), (2, .data (.slice .bool) x2), (3, .data (.slice .bool) x3), (4, .ptr 0 0), (9, .sl 1 0 [] (0 : Int) x0.2.1), (10, .data (.int .i64) x10), (11, .ptr 2 0), (44, .data .bool x44)], heapFrom 0 [some (.box [.data (.int .i64) x0.1, .data (.int .i64) x0.2.1, .data (.slice (.int .i64)) x0.2.2.1, .data (.slice K_api_Leaf) x0.2.2.2.1, .data (.slice K_api_Branch) x0.2.2.2.2.1]), some (.arr .no .bool x9 0 none), some (.box [.data (.int .i64) ((x0.2.2.2.2.1.getD x10.toNat (Z_api_Branch)).1), .data (.int .i64) ((x0.2.2.2.2.1.getD x10.toNat (Z_api_Branch)).2.1), .data (.int .i64) ((x0.2.2.2.2.1.getD x10.toNat (Z_api_Branch)).2.2.1), .data (.int .i64) ((x0.2.2.2.2.1.getD x10.toNat (Z_api_Branch)).2.2.2.1)])], 3⟩
def ref07_branch_s4 (x0 : T_api_TreeAutomaton) (x1 : Int) (x2 : (List Bool)) (x3 : (List Bool)) (x10 : Int) (x9b : (List Bool)) : St := ⟨slotsOf [(1, .data (.int .i64) x1), (2, .data (.slice .bool) x2), (3, .data (.slice .bool) x3), (4, .ptr 0 0), (9, .sl 1 0 [] (0 : Int) x0.2.1), (10, .data (.int .i64) x10)], heapFrom 0 [some (.box [.data (.int .i64) x0.1, .data (.int .i64) x0.2.1, .data (.slice (.int .i64)) x0.2.2.1, .data (.slice K_api_Leaf) x0.2.2.2.1, .data (.slice K_api_Branch) x0.2.2.2.2.1]), some (.arr .no .bool x9b 0 none)], 2⟩
def ref07_branch_o3_8 (x0 : T_api_TreeAutomaton) (x9c : (List Bool)) : St := ⟨slotsOf [(9, .sl 0 0 [] (0 : Int) x0.2.1)], heapFrom 0 [some (.arr .no .bool x9c 0 none)], 1⟩
def ref07_branch_s3 (x0 : T_api_TreeAutomaton) (x1 : Int) (x2 : (List Bool)) (x3 : (List Bool)) (x9 : (List Bool)) (x10 : Int) : St := ⟨slotsOf [(1, .data (.int .i64) x1), (2, .data (.slice .bool) x2), (3, .data (.slice .bool) x3), (4, .ptr 0 0), (9, .sl 1 0 [] (0 : Int) x0.2.1), (10, .data (.int .i64) x10)], heapFrom 0 [some (.box [.data (.int .i64) x0.1, .data (.int .i64) x0.2.1, .data (.slice (.int .i64)) x0.2.2.1, .data (.slice K_api_Leaf) x0.2.2.2.1, .data (.slice K_api_Branch) x0.2.2.2.2.1]), some (.arr .no .bool x9 0 none)], 2⟩
theorem ref07_branch_ok {x0 : T_api_TreeAutomaton} {x1 : Int} {x2 : (List Bool)} {x3 : (List Bool)} {r : (List Bool)} (hF : ref07_branch x0 x1 x2 x3 = some r) : evalLim cx 29 [.data K_api_TreeAutomaton x0, .data (.int .i64) x1, .data (.slice .bool) x2, .data (.slice .bool) x3] [] = some (.data (.slice .bool) r, []) := by
  refine fnG (h := h29) fn29 rfl rfl rfl rfl ?_
  unfold ref07_branch at hF
  refine wR rfl rfl ?_
  refine W (eBox rfl rfl) rfl ?_
  refine W (eNilA rfl ty66 rfl (nilPlain rfl)) rfl ?_
  refine wo_end ?_
  refine wR rfl rfl ?_
  refine W (eFaP rfl (fieldAt ty26 rfl rfl ty3 rfl)) rfl ?_
  refine W (eLdP rfl rfl ty3 rfl rfl) rfl ?_
  obtain ⟨g1, hF⟩ := gd_some hF
  refine W (eMk rfl rfl (elemOf ty66 rfl ty4 rfl) rfl g1) rfl ?_
  refine W (eAsg rfl rfl) rfl ?_
  refine wo_end ?_
  refine wp_seq ?_
  refine wR rfl rfl ?_
  refine W (eAsg rfl rfl) rfl ?_
  refine wo_end ?_
  refine wp_block ?_
  obtain ⟨e96, h97, hF⟩ := bind_some hF
  refine wLoop (Rel := fun (x : (List Bool) × Int) s => cutAt h29 h29.pre 3 s = some (ref07_branch_s3 x0 x1 x2 x3 x.1 x.2)) (QE := fun (e : (List Bool)) ex s => match e with | x9c => ex = .exit 0 ∧ cutAt h29 h29.pre 8 s = some (ref07_branch_o3_8 x0 x9c)) (fun x o98 s hF hs => ?_) h97 (by show _ = _; kernel_rfl) (fun ex s hq => ?_)
  · obtain ⟨x9, x10⟩ := x
    unfold ref07_branch_l3 at hF
    refine wp_seq ?_
    refine wR hs rfl ?_
    refine W (eMove rfl rfl) rfl ?_
    refine W (eFaP rfl (fieldAt ty26 rfl rfl ty24 rfl)) rfl ?_
    refine W (eLdP rfl rfl ty24 rfl rfl) rfl ?_
    refine W (eLen rfl rfl (lenD (isSliceOf ty24 rfl))) rfl ?_
    refine W (eBin rfl rfl rfl) rfl ?_
    refine wo_end ?_
    refine wIf hF rfl (fun c10 hF => ?_) (fun c10 hF => ?_)
    · refine wp_skip ?_
      refine wp_part (fun s => ∃ x9b, ref07_branch_j4 x0 x1 x2 x3 x10 x9b = some o98 ∧ cutAt h29 h29.pre 4 s = some (ref07_branch_s4 x0 x1 x2 x3 x10 x9b)) ?_ ?_
      · refine wp_block ?_
        refine wR rfl rfl ?_
        refine W (eFaP rfl (fieldAt ty26 rfl rfl ty24 rfl)) rfl ?_
        refine W (eLdP rfl rfl ty24 rfl rfl) rfl ?_
        refine W (eMove rfl rfl) rfl ?_
        obtain ⟨g11, hF⟩ := gd_some hF
        refine W (eIxD rfl rfl (kindOfTy ty24 rfl) g11) rfl ?_
        refine W (eLdA rfl (kindOfTy ty58 rfl)) rfl ?_
        refine W (eAlloc zero58) rfl ?_
        refine W (eStP rfl rfl rfl rfl ty58 rfl rfl) rfl ?_
        refine wo_end ?_
        refine wRq (M := fun s => ∃ x44, ref07_branch_q6 x0 x1 x2 x3 x9 x10 x44 = some o98 ∧ s = ref07_branch_t6 x0 x1 x2 x3 x9 x10 x44) rfl ?_ ?_
        · refine W (eFaP rfl (fieldAt ty58 rfl rfl ty3 rfl)) rfl ?_
          refine W (eLdP rfl rfl ty3 rfl rfl) rfl ?_
          refine W (eMove rfl rfl) rfl ?_
          refine W (eBin rfl rfl rfl) rfl ?_
          refine W (eMove rfl rfl) rfl ?_
          refine ifT hF (fun c12 hF => ?_) (fun c12 hF => ?_)
          · refine Wy rfl rfl c12 (eMove rfl rfl) rfl ?_
            refine Wy rfl rfl c12 (eFaP rfl (fieldAt ty58 rfl rfl ty3 rfl)) rfl ?_
            refine Wy rfl rfl c12 (eLdP rfl rfl ty3 rfl rfl) rfl ?_
            obtain ⟨g13, hF⟩ := gd_some hF
            refine Wy rfl rfl c12 (eIxD rfl rfl (kindOfTy ty66 rfl) g13) rfl ?_
            refine Wy rfl rfl c12 (eLdA rfl (kindOfTy ty4 rfl)) rfl ?_
            refine W (ePickT rfl c12 rfl) rfl ?_
            refine W (eMove rfl rfl) rfl ?_
            refine ifT hF (fun c14 hF => ?_) (fun c14 hF => ?_)
            · refine Wy rfl rfl c14 (eMove rfl rfl) rfl ?_
              refine Wy rfl rfl c14 (eFaP rfl (fieldAt ty58 rfl rfl ty3 rfl)) rfl ?_
              refine Wy rfl rfl c14 (eLdP rfl rfl ty3 rfl rfl) rfl ?_
              obtain ⟨g15, hF⟩ := gd_some hF
              refine Wy rfl rfl c14 (eIxD rfl rfl (kindOfTy ty66 rfl) g15) rfl ?_
              refine Wy rfl rfl c14 (eLdA rfl (kindOfTy ty4 rfl)) rfl ?_
              refine W (ePickT rfl c14 rfl) rfl ?_
              refine wo_end ?_
              exact ⟨ref07_branch_t6 x0 x1 x2 x3 x9 x10 (x3.getD ((x0.2.2.2.2.1.getD x10.toNat (Z_api_Branch)).2.2.1).toNat false), by kernel_rfl, (x3.getD ((x0.2.2.2.2.1.getD x10.toNat (Z_api_Branch)).2.2.1).toNat false), hF, rfl⟩
            · refine Wn rfl rfl c14 rfl ?_
              refine Wn rfl rfl c14 rfl ?_
              refine Wn rfl rfl c14 rfl ?_
              refine Wn rfl rfl c14 rfl ?_
              refine Wn rfl rfl c14 rfl ?_
              refine W (ePickF rfl c14 rfl) rfl ?_
              refine wo_end ?_
              exact ⟨ref07_branch_t6 x0 x1 x2 x3 x9 x10 false, by kernel_rfl, false, hF, rfl⟩
          · refine Wn rfl rfl c12 rfl ?_
            refine Wn rfl rfl c12 rfl ?_
            refine Wn rfl rfl c12 rfl ?_
            refine Wn rfl rfl c12 rfl ?_
            refine Wn rfl rfl c12 rfl ?_
            refine W (ePickF rfl c12 rfl) rfl ?_
            refine W (eMove rfl rfl) rfl ?_
            refine Wn rfl rfl rfl rfl ?_
            refine Wn rfl rfl rfl rfl ?_
            refine Wn rfl rfl rfl rfl ?_
            refine Wn rfl rfl rfl rfl ?_
            refine Wn rfl rfl rfl rfl ?_
            refine W (ePickF rfl rfl rfl) rfl ?_
            refine wo_end ?_
            exact ⟨ref07_branch_t6 x0 x1 x2 x3 x9 x10 false, by kernel_rfl, false, hF, rfl⟩
        · rintro s ⟨x44, hF, rfl⟩
          unfold ref07_branch_q6 at hF
          refine wIf hF rfl (fun c16 hF => ?_) (fun c16 hF => ?_)
          · refine wR1 rfl rfl ?_
            refine W (eMove rfl rfl) rfl ?_
            refine W (eFaP rfl (fieldAt ty58 rfl rfl ty3 rfl)) rfl ?_
            refine W (eLdP rfl rfl ty3 rfl rfl) rfl ?_
            obtain ⟨g17, hF⟩ := gd_some hF
            refine W (eIxS rfl rfl rfl (kindOfTy ty66 rfl) g17) rfl ?_
            refine W (eStE rfl rfl rfl rfl rfl (kindOfTy ty4 rfl) rfl absD rfl rfl) rfl ?_
            refine wo_end ?_
            exact ⟨(x9.set ((x0.2.2.2.2.1.getD x10.toNat (Z_api_Branch)).2.2.2.1).toNat true), hF, by kernel_rfl⟩
          · refine wp_skip ?_
            exact ⟨x9, hF, by kernel_rfl⟩
      · rintro s ⟨x9b, hF, hs⟩
        unfold ref07_branch_j4 at hF
        refine wR1 hs rfl ?_
        refine W (eMove rfl rfl) rfl ?_
        refine W (eBin rfl rfl rfl) rfl ?_
        refine W (eAsg rfl rfl) rfl ?_
        refine wo_end ?_
        cases hF; exact And.intro rfl (by show _ = _; kernel_rfl)
    · refine wp_exit ?_
      cases hF; exact And.intro (fun h => nomatch h) (And.intro rfl (by show _ = _; kernel_rfl))
  · revert e96; intro x9c h97 hF hq
    obtain ⟨rfl, hs⟩ := hq
    refine wR hs rfl ?_
    refine W (eMove rfl rfl) rfl ?_
    refine W (eAsg rfl rfl) rfl ?_
    refine wo_end ?_
    refine wp_ret ?_
    cases hF; exact (And.intro (.inr rfl) (finG rfl rfl (mapC rfl mapN) (fvD rfl ty66 rfl (asData_cont (k := .bool) (contS (k := .bool) (r := 0) (xs := x9c) rfl)) fvN) (by kernel_rfl)))

end Go.Lite.Fam
end

section
set_option linter.unusedVariables false
set_option linter.unusedSimpArgs false
set_option maxRecDepth 100000
set_option maxHeartbeats 20000000
namespace Go.Lite.Fam
open Go Go.Lite Go.Proofs

def ref07_meets_o2_6 : St := ⟨slotsOf [], heapFrom 0 [], 0⟩
def ref07_meets_s2 (x0 : (List Bool)) (x1 : (List Int)) (x5 : Int) : St := ⟨slotsOf [(0, .data (.slice .bool) x0), (1, .data (.slice (.int .i64)) x1), (5, .data (.int .i64) x5)], heapFrom 0 [], 0⟩
theorem ref07_meets_ok {x0 : (List Bool)} {x1 : (List Int)} {r : Bool} (hF : ref07_meets x0 x1 = some r) : evalLim cx 30 [.data (.slice .bool) x0, .data (.slice (.int .i64)) x1] [] = some (.data .bool r, []) := by
  refine fnG (h := h30) fn30 rfl rfl rfl rfl ?_
  unfold ref07_meets at hF
  refine wR rfl rfl ?_
  refine W (eAsg rfl rfl) rfl ?_
  refine wo_end ?_
  refine wp_seq ?_
  refine wR rfl rfl ?_
  refine W (eAsg rfl rfl) rfl ?_
  refine wo_end ?_
  refine wp_block ?_
  obtain ⟨e87, h88, hF⟩ := bind_some hF
  refine wLoop (Rel := fun (x : Int) s => cutAt h30 h30.pre 2 s = some (ref07_meets_s2 x0 x1 x)) (QE := fun (e : (Unit) ⊕ (Bool)) ex s => match e with | (.inl _) => ex = .exit 0 ∧ cutAt h30 h30.pre 6 s = some (ref07_meets_o2_6) | (.inr r0) => ex = .ret ∧ EndsG cx Try.f30 h30.keep 0 (.data .bool r0) [] ex s) (fun x o89 s hF hs => ?_) h88 (by show _ = _; kernel_rfl) (fun ex s hq => ?_)
  · revert x; intro x5 hF hs
    unfold ref07_meets_l2 at hF
    refine wp_seq ?_
    refine wR hs rfl ?_
    refine W (eMove rfl rfl) rfl ?_
    refine W (eMove rfl rfl) rfl ?_
    refine W (eLen rfl rfl (lenD (isSliceOf ty22 rfl))) rfl ?_
    refine W (eBin rfl rfl rfl) rfl ?_
    refine wo_end ?_
    refine wIf hF rfl (fun c5 hF => ?_) (fun c5 hF => ?_)
    · refine wp_skip ?_
      refine wp_seq ?_
      refine wp_block ?_
      refine wR rfl rfl ?_
      refine W (eMove rfl rfl) rfl ?_
      refine W (eMove rfl rfl) rfl ?_
      refine W (eMove rfl rfl) rfl ?_
      obtain ⟨g6, hF⟩ := gd_some hF
      refine W (eIxD rfl rfl (kindOfTy ty22 rfl) g6) rfl ?_
      refine W (eLdA rfl (kindOfTy ty3 rfl)) rfl ?_
      obtain ⟨g7, hF⟩ := gd_some hF
      refine W (eIxD rfl rfl (kindOfTy ty66 rfl) g7) rfl ?_
      refine W (eLdA rfl (kindOfTy ty4 rfl)) rfl ?_
      refine wo_end ?_
      refine wIf hF rfl (fun c8 hF => ?_) (fun c8 hF => ?_)
      · refine wR rfl rfl ?_
        refine W (eAsg rfl rfl) rfl ?_
        refine wo_end ?_
        refine wp_ret ?_
        cases hF; exact And.intro (fun h => nomatch h) (And.intro rfl (And.intro (.inr rfl) (finG rfl rfl (mapC rfl mapN) (fvD rfl ty4 rfl dD fvN) (by kernel_rfl))))
      · refine wp_skip ?_
        refine wR1 rfl rfl ?_
        refine W (eMove rfl rfl) rfl ?_
        refine W (eBin rfl rfl rfl) rfl ?_
        refine W (eAsg rfl rfl) rfl ?_
        refine wo_end ?_
        cases hF; exact And.intro rfl (by show _ = _; kernel_rfl)
    · refine wp_exit ?_
      cases hF; exact And.intro (fun h => nomatch h) (And.intro rfl (by show _ = _; kernel_rfl))
  · rcases e87 with _ | r0
    · obtain ⟨rfl, hs⟩ := hq
      refine wR hs rfl ?_
      refine W (eAsg rfl rfl) rfl ?_
      refine wo_end ?_
      refine wp_ret ?_
      cases hF; exact (And.intro (.inr rfl) (finG rfl rfl (mapC rfl mapN) (fvD rfl ty4 rfl dD fvN) (by kernel_rfl)))
    · obtain ⟨rfl, hq⟩ := hq
      cases hF; exact hq

end Go.Lite.Fam
end

section
set_option linter.unusedVariables false
set_option linter.unusedSimpArgs false
set_option maxRecDepth 100000
set_option maxHeartbeats 20000000
namespace Go.Lite.Fam
open Go Go.Lite Go.Proofs

def ref07_accepts_s4 (x0 : T_api_TreeAutomaton) (x1 : (List Int)) (x2 : (List Int)) (x8 : Int) (x7b : (List (List Bool))) : St := ⟨slotsOf [(1, .data (.slice (.int .i64)) x1), (2, .data (.slice (.int .i64)) x2), (3, .ptr 0 0), (7, .sl 1 0 [] (0 : Int) ((x7b.length : Nat) : Int)), (8, .data (.int .i64) x8)], heapFrom 0 [some (.box [.data (.int .i64) x0.1, .data (.int .i64) x0.2.1, .data (.slice (.int .i64)) x0.2.2.1, .data (.slice K_api_Leaf) x0.2.2.2.1, .data (.slice K_api_Branch) x0.2.2.2.2.1]), some (.arr .no (.slice .bool) x7b 0 none)], 2⟩
def ref07_accepts_o3_10 (x0 : T_api_TreeAutomaton) (x7c : (List (List Bool))) : St := ⟨slotsOf [(3, .ptr 0 0), (7, .sl 1 0 [] (0 : Int) ((x7c.length : Nat) : Int))], heapFrom 0 [some (.box [.data (.int .i64) x0.1, .data (.int .i64) x0.2.1, .data (.slice (.int .i64)) x0.2.2.1, .data (.slice K_api_Leaf) x0.2.2.2.1, .data (.slice K_api_Branch) x0.2.2.2.2.1]), some (.arr .no (.slice .bool) x7c 0 none)], 2⟩
def ref07_accepts_s3 (x0 : T_api_TreeAutomaton) (x1 : (List Int)) (x2 : (List Int)) (x7 : (List (List Bool))) (x8 : Int) : St := ⟨slotsOf [(1, .data (.slice (.int .i64)) x1), (2, .data (.slice (.int .i64)) x2), (3, .ptr 0 0), (7, .sl 1 0 [] (0 : Int) ((x7.length : Nat) : Int)), (8, .data (.int .i64) x8)], heapFrom 0 [some (.box [.data (.int .i64) x0.1, .data (.int .i64) x0.2.1, .data (.slice (.int .i64)) x0.2.2.1, .data (.slice K_api_Leaf) x0.2.2.2.1, .data (.slice K_api_Branch) x0.2.2.2.2.1]), some (.arr .no (.slice .bool) x7 0 none)], 2⟩
theorem ref07_accepts_ok {x0 : T_api_TreeAutomaton} {x1 : (List Int)} {x2 : (List Int)} {r : Bool} (hF : ref07_accepts x0 x1 x2 = some r) : evalLim cx 19 [.data K_api_TreeAutomaton x0, .data (.slice (.int .i64)) x1, .data (.slice (.int .i64)) x2] [] = some (.data .bool r, []) := by
  refine fnG (h := h19) fn19 rfl rfl rfl rfl ?_
  unfold ref07_accepts at hF
  refine wR rfl rfl ?_
  refine W (eBox rfl rfl) rfl ?_
  refine W (eAsg rfl rfl) rfl ?_
  refine wo_end ?_
  refine wR rfl rfl ?_
  refine W (eNilA rfl ty65 rfl (nilPlain rfl)) rfl ?_
  refine wo_end ?_
  refine wp_seq ?_
  refine wR rfl rfl ?_
  refine W (eMove rfl rfl) rfl ?_
  refine W (eLen rfl rfl (lenD (isSliceOf ty22 rfl))) rfl ?_
  refine W (eBin rfl rfl rfl) rfl ?_
  refine W (eAsg rfl rfl) rfl ?_
  refine wo_end ?_
  refine wp_block ?_
  obtain ⟨e105, h106, hF⟩ := bind_some hF
  refine wLoop (Rel := fun (x : (List (List Bool)) × Int) s => cutAt h19 h19.pre 3 s = some (ref07_accepts_s3 x0 x1 x2 x.1 x.2)) (QE := fun (e : (List (List Bool))) ex s => match e with | x7c => ex = .exit 0 ∧ cutAt h19 h19.pre 10 s = some (ref07_accepts_o3_10 x0 x7c)) (fun x o107 s hF hs => ?_) h106 (by show _ = _; kernel_rfl) (fun ex s hq => ?_)
  · obtain ⟨x7, x8⟩ := x
    unfold ref07_accepts_l3 at hF
    refine wp_seq ?_
    refine wR hs rfl ?_
    refine W (eMove rfl rfl) rfl ?_
    refine W (eBin rfl rfl rfl) rfl ?_
    refine wo_end ?_
    refine wIf hF rfl (fun c13 hF => ?_) (fun c13 hF => ?_)
    · refine wp_skip ?_
      refine wp_part (fun s => ∃ x7b, ref07_accepts_j4 x0 x1 x2 x8 x7b = some o107 ∧ cutAt h19 h19.pre 4 s = some (ref07_accepts_s4 x0 x1 x2 x8 x7b)) ?_ ?_
      · refine wp_block ?_
        refine wp_seq ?_
        refine wR rfl rfl ?_
        refine W (eMove rfl rfl) rfl ?_
        refine W (eMove rfl rfl) rfl ?_
        obtain ⟨g14, hF⟩ := gd_some hF
        refine W (eIxD rfl rfl (kindOfTy ty22 rfl) g14) rfl ?_
        refine W (eLdA rfl (kindOfTy ty3 rfl)) rfl ?_
        refine W (eBin rfl rfl rfl) rfl ?_
        refine wo_end ?_
        refine wIf hF rfl (fun c15 hF => ?_) (fun c15 hF => ?_)
        · refine wD rfl rfl rfl rfl ?_
          refine W (eMove rfl rfl) rfl ?_
          refine W (eLdP rfl rfl ty26 rfl rfl) rfl ?_
          refine W (eMove rfl rfl) rfl ?_
          refine W (eMove rfl rfl) rfl ?_
          obtain ⟨g16, hF⟩ := gd_some hF
          refine W (eIxD rfl rfl (kindOfTy ty22 rfl) g16) rfl ?_
          refine W (eLdA rfl (kindOfTy ty3 rfl)) rfl ?_
          obtain ⟨r106, e17, hF⟩ := bind_some hF
          refine W (eCall rfl rfl (callS fn28 rfl rfl (hoD rfl ty26 rfl dD (hoD rfl ty3 rfl dD hoN)) rfl rfl (ref07_leaf_ok e17))) rfl ?_
          refine W (eLit rfl (elemOf ty65 rfl ty66 rfl) rfl rfl (absC absD absN)) rfl ?_
          obtain ⟨g18, hF⟩ := gd_some hF
          refine W (eApp rfl rfl ty65 rfl (appF (elemOf ty65 rfl ty66 rfl) rfl (addC (fun _ h => nomatch h) contL) rfl g18)) rfl ?_
          refine W (eAsg rfl rfl) rfl ?_
          refine wo_end ?_
          refine wp_exit ?_
          exact ⟨(x7 ++ [r106]), hF, by kernel_rfl⟩
        · refine wp_skip ?_
          refine wR rfl rfl ?_
          refine W (eMove rfl rfl) rfl ?_
          refine W (eLen rfl rfl (lenS (isSliceOf ty65 rfl))) rfl ?_
          refine W (eAsg rfl rfl) rfl ?_
          refine wo_end ?_
          refine wD rfl rfl rfl rfl ?_
          refine W (eLdP rfl rfl ty26 rfl rfl) rfl ?_
          refine W (eMove rfl rfl) rfl ?_
          refine W (eMove rfl rfl) rfl ?_
          obtain ⟨g19, hF⟩ := gd_some hF
          refine W (eIxD rfl rfl (kindOfTy ty22 rfl) g19) rfl ?_
          refine W (eLdA rfl (kindOfTy ty3 rfl)) rfl ?_
          refine W (eMove rfl rfl) rfl ?_
          refine W (eMove rfl rfl) rfl ?_
          refine W (eBin rfl rfl rfl) rfl ?_
          obtain ⟨g20, hF⟩ := gd_some hF
          refine W (eIxS rfl rfl rfl (kindOfTy ty65 rfl) g20) rfl ?_
          refine W (eLdE rfl rfl rfl (kindOfTy ty66 rfl) rfl) rfl ?_
          refine W (eMove rfl rfl) rfl ?_
          refine W (eMove rfl rfl) rfl ?_
          refine W (eBin rfl rfl rfl) rfl ?_
          obtain ⟨g21, hF⟩ := gd_some hF
          refine W (eIxS rfl rfl rfl (kindOfTy ty65 rfl) g21) rfl ?_
          refine W (eLdE rfl rfl rfl (kindOfTy ty66 rfl) rfl) rfl ?_
          obtain ⟨r202, e22, hF⟩ := bind_some hF
          refine W (eCall rfl rfl (callS fn29 rfl rfl (hoD rfl ty26 rfl dD (hoD rfl ty3 rfl dD (hoD rfl ty66 rfl dD (hoD rfl ty66 rfl dD hoN)))) rfl rfl (ref07_branch_ok e22))) rfl ?_
          refine W (eAsg rfl rfl) rfl ?_
          refine wo_end ?_
          refine wR1 rfl rfl ?_
          refine W (eMove rfl rfl) rfl ?_
          refine W (eMove rfl rfl) rfl ?_
          refine W (eBin rfl rfl rfl) rfl ?_
          obtain ⟨g23, hF⟩ := gd_some hF
          refine W (eCut rfl rfl rfl rfl (cutSh rfl (kindOfTy ty65 rfl) g23)) rfl ?_
          refine W (eMove rfl rfl) rfl ?_
          refine W (eLit rfl (elemOf ty65 rfl ty66 rfl) rfl rfl (absC absD absN)) rfl ?_
          obtain ⟨g24, hF⟩ := gd_some hF
          refine W (eApp rfl rfl ty65 rfl (appH (elemOf ty65 rfl ty66 rfl) rfl (addC (fun _ h => nomatch h) contL) rfl g24)) rfl ?_
          refine W (eAsg rfl rfl) rfl ?_
          refine wo_end ?_
          exact ⟨((x7.take (IntKind.i64.wrap (((x7.length : Nat) : Int) - (2 : Int))).toNat) ++ [r202]), hF, by kernel_rfl⟩
      · rintro s ⟨x7b, hF, hs⟩
        unfold ref07_accepts_j4 at hF
        refine wR1 hs rfl ?_
        refine W (eMove rfl rfl) rfl ?_
        refine W (eBin rfl rfl rfl) rfl ?_
        refine W (eAsg rfl rfl) rfl ?_
        refine wo_end ?_
        cases hF; exact And.intro rfl (by show _ = _; kernel_rfl)
    · refine wp_exit ?_
      cases hF; exact And.intro (fun h => nomatch h) (And.intro rfl (by show _ = _; kernel_rfl))
  · revert e105; intro x7c h106 hF hq
    obtain ⟨rfl, hs⟩ := hq
    refine wD rfl rfl hs rfl ?_
    refine W (eMove rfl rfl) rfl ?_
    obtain ⟨g25, hF⟩ := gd_some hF
    refine W (eIxS rfl rfl rfl (kindOfTy ty65 rfl) g25) rfl ?_
    refine W (eLdE rfl rfl rfl (kindOfTy ty66 rfl) rfl) rfl ?_
    refine W (eFaP rfl (fieldAt ty26 rfl rfl ty22 rfl)) rfl ?_
    refine W (eLdP rfl rfl ty22 rfl rfl) rfl ?_
    obtain ⟨r42, e26, hF⟩ := bind_some hF
    refine W (eCall rfl rfl (callS fn30 rfl rfl (hoD rfl ty66 rfl dD (hoD rfl ty22 rfl dD hoN)) rfl rfl (ref07_meets_ok e26))) rfl ?_
    refine W (eAsg rfl rfl) rfl ?_
    refine wo_end ?_
    refine wp_ret ?_
    cases hF; exact (And.intro (.inr rfl) (finG rfl rfl (mapC rfl mapN) (fvD rfl ty4 rfl dD fvN) (by kernel_rfl)))

end Go.Lite.Fam
end

section
set_option linter.unusedVariables false
set_option linter.unusedSimpArgs false
set_option maxRecDepth 100000
set_option maxHeartbeats 20000000
namespace Go.Lite.Fam
open Go Go.Lite Go.Proofs

def ref07_Accepts_t1 (x0 : T_api_TreeAutomaton) (x1 : (List Int)) (x2 : (List Int)) (x18 : Bool) : St := ⟨slotsOf [(1, .data (.slice (.int .i64)) x1), (2, .data (.slice (.int .i64)) x2), (3, .ptr 0 0), (18, .data .bool x18)], heapFrom 0 [some (.box [.data (.int .i64) x0.1, .data (.int .i64) x0.2.1, .data (.slice (.int .i64)) x0.2.2.1, .data (.slice K_api_Leaf) x0.2.2.2.1, .data (.slice K_api_Branch) x0.2.2.2.2.1])], 1⟩
theorem ref07_Accepts_ok {x0 : T_api_TreeAutomaton} {x1 : (List Int)} {x2 : (List Int)} {r : Bool × Int} (hF : ref07_Accepts x0 x1 x2 = some r) : evalLim cx 9 [.data K_api_TreeAutomaton x0, .data (.slice (.int .i64)) x1, .data (.slice (.int .i64)) x2] [] = some (.tuple [.data .bool r.1, .data (.int .i64) r.2], []) := by
  refine fnG (h := h9) fn9 rfl rfl rfl rfl ?_
  unfold ref07_Accepts at hF
  refine wR rfl rfl ?_
  refine W (eBox rfl rfl) rfl ?_
  refine W (eAsg rfl rfl) rfl ?_
  refine W (eAsg rfl rfl) rfl ?_
  refine wo_end ?_
  refine wp_seq ?_
  refine wRq (M := fun s => ∃ x18, ref07_Accepts_q1 x0 x1 x2 x18 = some r ∧ s = ref07_Accepts_t1 x0 x1 x2 x18) rfl ?_ ?_
  · refine W (eLdP rfl rfl ty26 rfl rfl) rfl ?_
    obtain ⟨r32, e1, hF⟩ := bind_some hF
    refine W (eCall rfl rfl (callS fn11 rfl rfl (hoD rfl ty26 rfl dD hoN) rfl rfl (ref07_Validate_ok e1))) rfl ?_
    refine W (eBin rfl rfl rfl) rfl ?_
    refine W (eMove rfl rfl) rfl ?_
    refine ifT hF (fun c2 hF => ?_) (fun c2 hF => ?_)
    · refine Wn rfl rfl c2 rfl ?_
      refine Wn rfl rfl c2 rfl ?_
      refine Wn rfl rfl c2 rfl ?_
      refine Wn rfl rfl c2 rfl ?_
      refine Wn rfl rfl c2 rfl ?_
      refine Wn rfl rfl c2 rfl ?_
      refine W (ePickT rfl c2 rfl) rfl ?_
      refine wo_end ?_
      exact ⟨ref07_Accepts_t1 x0 x1 x2 true, by kernel_rfl, true, hF, rfl⟩
    · refine Wy rfl rfl c2 (eFaP rfl (fieldAt ty26 rfl rfl ty3 rfl)) rfl ?_
      refine Wy rfl rfl c2 (eLdP rfl rfl ty3 rfl rfl) rfl ?_
      refine Wy rfl rfl c2 (eMove rfl rfl) rfl ?_
      refine Wy rfl rfl c2 (eMove rfl rfl) rfl ?_
      obtain ⟨r88, e3, hF⟩ := bind_some hF
      refine Wy rfl rfl c2 (eCall rfl rfl (callS fn18 rfl rfl (hoD rfl ty3 rfl dD (hoD rfl ty22 rfl dD (hoD rfl ty22 rfl dD hoN))) rfl rfl (ref07_ValidTree_ok e3))) rfl ?_
      refine Wy rfl rfl c2 (eUn rfl rfl) rfl ?_
      refine W (ePickF rfl c2 rfl) rfl ?_
      refine wo_end ?_
      exact ⟨ref07_Accepts_t1 x0 x1 x2 (!r88), by kernel_rfl, (!r88), hF, rfl⟩
  · rintro s ⟨x18, hF, rfl⟩
    unfold ref07_Accepts_q1 at hF
    refine wIf hF rfl (fun c4 hF => ?_) (fun c4 hF => ?_)
    · refine wR rfl rfl ?_
      refine W (eAsg rfl rfl) rfl ?_
      refine W (eAsg rfl rfl) rfl ?_
      refine wo_end ?_
      refine wp_ret ?_
      cases hF; exact (And.intro (.inr rfl) (finG rfl rfl (mapC rfl (mapC rfl mapN)) (fvD rfl ty4 rfl dD (fvD rfl ty32 rfl dD fvN)) (by kernel_rfl)))
    · refine wp_skip ?_
      refine wR rfl rfl ?_
      refine W (eLdP rfl rfl ty26 rfl rfl) rfl ?_
      refine W (eMove rfl rfl) rfl ?_
      refine W (eMove rfl rfl) rfl ?_
      obtain ⟨r25, e5, hF⟩ := bind_some hF
      refine W (eCall rfl rfl (callS fn19 rfl rfl (hoD rfl ty26 rfl dD (hoD rfl ty22 rfl dD (hoD rfl ty22 rfl dD hoN))) rfl rfl (ref07_accepts_ok e5))) rfl ?_
      refine W (eAsg rfl rfl) rfl ?_
      refine W (eAsg rfl rfl) rfl ?_
      refine wo_end ?_
      refine wp_ret ?_
      cases hF; exact (And.intro (.inr rfl) (finG rfl rfl (mapC rfl (mapC rfl mapN)) (fvD rfl ty4 rfl dD (fvD rfl ty32 rfl dD fvN)) (by kernel_rfl)))

end Go.Lite.Fam
end

section
set_option linter.unusedVariables false
set_option linter.unusedSimpArgs false
set_option maxRecDepth 100000
set_option maxHeartbeats 20000000
namespace Go.Lite.Fam
open Go Go.Lite Go.Proofs

def tree_Validate_2_t1 (x1_0 : Int) (x1_1 : Int) (x1_2 : (List Int)) (x1_3 : (List T_api_Leaf)) (x1_4 : (List T_api_Branch)) (x3 : Bool) : St := ⟨slotsOf [(3, .data .bool x3)], heapFrom 0 [some (.box [.data (.int .i64) x1_0, .data (.int .i64) x1_1, .data (.slice (.int .i64)) x1_2, .data (.slice K_api_Leaf) x1_3, .data (.slice K_api_Branch) x1_4])], 1⟩
theorem tree_Validate_2_ok {x0 : Int} {x1_0 : Int} {x1_1 : Int} {x1_2 : (List Int)} {x1_3 : (List T_api_Leaf)} {x1_4 : (List T_api_Branch)} {r : Bool} (hF : tree_Validate_2 x0 x1_0 x1_1 x1_2 x1_3 x1_4 = some r) : evalLim cx 26 [.data (.int .i64) x0, .ptr 0 0] [(.box [.data (.int .i64) x1_0, .data (.int .i64) x1_1, .data (.slice (.int .i64)) x1_2, .data (.slice K_api_Leaf) x1_3, .data (.slice K_api_Branch) x1_4])] = some (.data .bool r, [some (.box [.data (.int .i64) x1_0, .data (.int .i64) x1_1, .data (.slice (.int .i64)) x1_2, .data (.slice K_api_Leaf) x1_3, .data (.slice K_api_Branch) x1_4])]) := by
  refine fnG (h := h26) fn26 rfl rfl rfl rfl ?_
  unfold tree_Validate_2 at hF
  refine wR rfl rfl ?_
  refine W (eAsg rfl rfl) rfl ?_
  refine wo_end ?_
  refine wRq (M := fun s => ∃ x3, tree_Validate_2_q1 x1_0 x1_1 x1_2 x1_3 x1_4 x3 = some r ∧ s = tree_Validate_2_t1 x1_0 x1_1 x1_2 x1_3 x1_4 x3) rfl ?_ ?_
  · refine W (eMove rfl rfl) rfl ?_
    refine W (eBin rfl rfl rfl) rfl ?_
    refine W (eMove rfl rfl) rfl ?_
    refine ifT hF (fun c1 hF => ?_) (fun c1 hF => ?_)
    · refine Wy rfl rfl c1 (eMove rfl rfl) rfl ?_
      refine Wy rfl rfl c1 (eFaP rfl (fieldAt ty26 rfl rfl ty3 rfl)) rfl ?_
      refine Wy rfl rfl c1 (eLdP rfl rfl ty3 rfl rfl) rfl ?_
      refine Wy rfl rfl c1 (eBin rfl rfl rfl) rfl ?_
      refine W (ePickT rfl c1 rfl) rfl ?_
      refine W (eAsg rfl rfl) rfl ?_
      refine wo_end ?_
      exact ⟨tree_Validate_2_t1 x1_0 x1_1 x1_2 x1_3 x1_4 (decide (x0 < x1_1)), by kernel_rfl, (decide (x0 < x1_1)), hF, rfl⟩
    · refine Wn rfl rfl c1 rfl ?_
      refine Wn rfl rfl c1 rfl ?_
      refine Wn rfl rfl c1 rfl ?_
      refine Wn rfl rfl c1 rfl ?_
      refine W (ePickF rfl c1 rfl) rfl ?_
      refine W (eAsg rfl rfl) rfl ?_
      refine wo_end ?_
      exact ⟨tree_Validate_2_t1 x1_0 x1_1 x1_2 x1_3 x1_4 false, by kernel_rfl, false, hF, rfl⟩
  · rintro s ⟨x3, hF, rfl⟩
    unfold tree_Validate_2_q1 at hF
    refine wp_ret ?_
    cases hF; exact (And.intro (.inr rfl) (finG rfl rfl (mapC rfl mapN) (fvD rfl ty4 rfl dD fvN) (by kernel_rfl)))

end Go.Lite.Fam
end

section
set_option linter.unusedVariables false
set_option linter.unusedSimpArgs false
set_option maxRecDepth 100000
set_option maxHeartbeats 20000000
namespace Go.Lite.Fam
open Go Go.Lite Go.Proofs

def tree_Validate_1_t1 (x1_0 : Int) (x1_1 : Int) (x1_2 : (List Int)) (x1_3 : (List T_api_Leaf)) (x1_4 : (List T_api_Branch)) (x3 : Bool) : St := ⟨slotsOf [(3, .data .bool x3)], heapFrom 0 [some (.box [.data (.int .i64) x1_0, .data (.int .i64) x1_1, .data (.slice (.int .i64)) x1_2, .data (.slice K_api_Leaf) x1_3, .data (.slice K_api_Branch) x1_4])], 1⟩
theorem tree_Validate_1_ok {x0 : Int} {x1_0 : Int} {x1_1 : Int} {x1_2 : (List Int)} {x1_3 : (List T_api_Leaf)} {x1_4 : (List T_api_Branch)} {r : Bool} (hF : tree_Validate_1 x0 x1_0 x1_1 x1_2 x1_3 x1_4 = some r) : evalLim cx 25 [.data (.int .i64) x0, .ptr 0 0] [(.box [.data (.int .i64) x1_0, .data (.int .i64) x1_1, .data (.slice (.int .i64)) x1_2, .data (.slice K_api_Leaf) x1_3, .data (.slice K_api_Branch) x1_4])] = some (.data .bool r, [some (.box [.data (.int .i64) x1_0, .data (.int .i64) x1_1, .data (.slice (.int .i64)) x1_2, .data (.slice K_api_Leaf) x1_3, .data (.slice K_api_Branch) x1_4])]) := by
  refine fnG (h := h25) fn25 rfl rfl rfl rfl ?_
  unfold tree_Validate_1 at hF
  refine wR rfl rfl ?_
  refine W (eAsg rfl rfl) rfl ?_
  refine wo_end ?_
  refine wRq (M := fun s => ∃ x3, tree_Validate_1_q1 x1_0 x1_1 x1_2 x1_3 x1_4 x3 = some r ∧ s = tree_Validate_1_t1 x1_0 x1_1 x1_2 x1_3 x1_4 x3) rfl ?_ ?_
  · refine W (eMove rfl rfl) rfl ?_
    refine W (eBin rfl rfl rfl) rfl ?_
    refine W (eMove rfl rfl) rfl ?_
    refine ifT hF (fun c1 hF => ?_) (fun c1 hF => ?_)
    · refine Wy rfl rfl c1 (eMove rfl rfl) rfl ?_
      refine Wy rfl rfl c1 (eFaP rfl (fieldAt ty26 rfl rfl ty3 rfl)) rfl ?_
      refine Wy rfl rfl c1 (eLdP rfl rfl ty3 rfl rfl) rfl ?_
      refine Wy rfl rfl c1 (eBin rfl rfl rfl) rfl ?_
      refine W (ePickT rfl c1 rfl) rfl ?_
      refine W (eAsg rfl rfl) rfl ?_
      refine wo_end ?_
      exact ⟨tree_Validate_1_t1 x1_0 x1_1 x1_2 x1_3 x1_4 (decide (x0 < x1_0)), by kernel_rfl, (decide (x0 < x1_0)), hF, rfl⟩
    · refine Wn rfl rfl c1 rfl ?_
      refine Wn rfl rfl c1 rfl ?_
      refine Wn rfl rfl c1 rfl ?_
      refine Wn rfl rfl c1 rfl ?_
      refine W (ePickF rfl c1 rfl) rfl ?_
      refine W (eAsg rfl rfl) rfl ?_
      refine wo_end ?_
      exact ⟨tree_Validate_1_t1 x1_0 x1_1 x1_2 x1_3 x1_4 false, by kernel_rfl, false, hF, rfl⟩
  · rintro s ⟨x3, hF, rfl⟩
    unfold tree_Validate_1_q1 at hF
    refine wp_ret ?_
    cases hF; exact (And.intro (.inr rfl) (finG rfl rfl (mapC rfl mapN) (fvD rfl ty4 rfl dD fvN) (by kernel_rfl)))

end Go.Lite.Fam
end

section
set_option linter.unusedVariables false
set_option linter.unusedSimpArgs false
set_option maxRecDepth 100000
set_option maxHeartbeats 20000000
namespace Go.Lite.Fam
open Go Go.Lite Go.Proofs

def tree_Validate_t1 (x0 : T_api_TreeAutomaton) (x28 : Bool) : St := ⟨slotsOf [(1, .ptr 0 0), (28, .data .bool x28)], heapFrom 0 [some (.box [.data (.int .i64) x0.1, .data (.int .i64) x0.2.1, .data (.slice (.int .i64)) x0.2.2.1, .data (.slice K_api_Leaf) x0.2.2.2.1, .data (.slice K_api_Branch) x0.2.2.2.2.1])], 1⟩
def tree_Validate_o6_11 (x0 : T_api_TreeAutomaton) : St := ⟨slotsOf [(1, .ptr 0 0), (3, .fn 25 [.ptr 0 0]), (4, .fn 26 [.ptr 0 0])], heapFrom 0 [some (.box [.data (.int .i64) x0.1, .data (.int .i64) x0.2.1, .data (.slice (.int .i64)) x0.2.2.1, .data (.slice K_api_Leaf) x0.2.2.2.1, .data (.slice K_api_Branch) x0.2.2.2.2.1])], 1⟩
def tree_Validate_s6 (x0 : T_api_TreeAutomaton) (x34 : Int) : St := ⟨slotsOf [(1, .ptr 0 0), (3, .fn 25 [.ptr 0 0]), (4, .fn 26 [.ptr 0 0]), (32, .data (.slice (.int .i64)) x0.2.2.1), (33, .data (.int .i64) ((x0.2.2.1.length : Nat) : Int)), (34, .data (.int .i64) x34)], heapFrom 0 [some (.box [.data (.int .i64) x0.1, .data (.int .i64) x0.2.1, .data (.slice (.int .i64)) x0.2.2.1, .data (.slice K_api_Leaf) x0.2.2.2.1, .data (.slice K_api_Branch) x0.2.2.2.2.1])], 1⟩
def tree_Validate_t14 (x0 : T_api_TreeAutomaton) (x46 : Int) (x61 : Bool) : St := ⟨slotsOf [(1, .ptr 0 0), (3, .fn 25 [.ptr 0 0]), (4, .fn 26 [.ptr 0 0]), (44, .data (.slice K_api_Leaf) x0.2.2.2.1), (45, .data (.int .i64) ((x0.2.2.2.1.length : Nat) : Int)), (46, .data (.int .i64) x46), (61, .data .bool x61)], heapFrom 0 [some (.box [.data (.int .i64) x0.1, .data (.int .i64) x0.2.1, .data (.slice (.int .i64)) x0.2.2.1, .data (.slice K_api_Leaf) x0.2.2.2.1, .data (.slice K_api_Branch) x0.2.2.2.2.1])], 1⟩
def tree_Validate_o12_17 (x0 : T_api_TreeAutomaton) : St := ⟨slotsOf [(1, .ptr 0 0), (3, .fn 25 [.ptr 0 0]), (4, .fn 26 [.ptr 0 0])], heapFrom 0 [some (.box [.data (.int .i64) x0.1, .data (.int .i64) x0.2.1, .data (.slice (.int .i64)) x0.2.2.1, .data (.slice K_api_Leaf) x0.2.2.2.1, .data (.slice K_api_Branch) x0.2.2.2.2.1])], 1⟩
def tree_Validate_s12 (x0 : T_api_TreeAutomaton) (x46 : Int) : St := ⟨slotsOf [(1, .ptr 0 0), (3, .fn 25 [.ptr 0 0]), (4, .fn 26 [.ptr 0 0]), (44, .data (.slice K_api_Leaf) x0.2.2.2.1), (45, .data (.int .i64) ((x0.2.2.2.1.length : Nat) : Int)), (46, .data (.int .i64) x46)], heapFrom 0 [some (.box [.data (.int .i64) x0.1, .data (.int .i64) x0.2.1, .data (.slice (.int .i64)) x0.2.2.1, .data (.slice K_api_Leaf) x0.2.2.2.1, .data (.slice K_api_Branch) x0.2.2.2.2.1])], 1⟩
def tree_Validate_t20 (x0 : T_api_TreeAutomaton) (x66 : Int) (x95 : Bool) : St := ⟨slotsOf [(3, .fn 25 [.ptr 0 0]), (4, .fn 26 [.ptr 0 0]), (64, .data (.slice K_api_Branch) x0.2.2.2.2.1), (65, .data (.int .i64) ((x0.2.2.2.2.1.length : Nat) : Int)), (66, .data (.int .i64) x66), (95, .data .bool x95)], heapFrom 0 [some (.box [.data (.int .i64) x0.1, .data (.int .i64) x0.2.1, .data (.slice (.int .i64)) x0.2.2.1, .data (.slice K_api_Leaf) x0.2.2.2.1, .data (.slice K_api_Branch) x0.2.2.2.2.1])], 1⟩
def tree_Validate_o18_23 : St := ⟨slotsOf [], heapFrom 0 [], 0⟩
def tree_Validate_s18 (x0 : T_api_TreeAutomaton) (x66 : Int) : St := ⟨slotsOf [(3, .fn 25 [.ptr 0 0]), (4, .fn 26 [.ptr 0 0]), (64, .data (.slice K_api_Branch) x0.2.2.2.2.1), (65, .data (.int .i64) ((x0.2.2.2.2.1.length : Nat) : Int)), (66, .data (.int .i64) x66)], heapFrom 0 [some (.box [.data (.int .i64) x0.1, .data (.int .i64) x0.2.1, .data (.slice (.int .i64)) x0.2.2.1, .data (.slice K_api_Leaf) x0.2.2.2.1, .data (.slice K_api_Branch) x0.2.2.2.2.1])], 1⟩
theorem tree_Validate_ok {x0 : T_api_TreeAutomaton} {r : Int} (hF : tree_Validate x0 = some r) : evalLim cx 15 [.data K_api_TreeAutomaton x0] [] = some (.data (.int .i64) r, []) := by
  refine fnG (h := h15) fn15 rfl rfl rfl rfl ?_
  unfold tree_Validate at hF
  refine wR rfl rfl ?_
  refine W (eBox rfl rfl) rfl ?_
  refine W (eAsg rfl rfl) rfl ?_
  refine wo_end ?_
  refine wp_seq ?_
  refine wRq (M := fun s => ∃ x28, tree_Validate_q1 x0 x28 = some r ∧ s = tree_Validate_t1 x0 x28) rfl ?_ ?_
  · refine W (eFaP rfl (fieldAt ty26 rfl rfl ty3 rfl)) rfl ?_
    refine W (eLdP rfl rfl ty3 rfl rfl) rfl ?_
    refine W (eBin rfl rfl rfl) rfl ?_
    refine W (eMove rfl rfl) rfl ?_
    refine ifT hF (fun c1 hF => ?_) (fun c1 hF => ?_)
    · refine Wn rfl rfl c1 rfl ?_
      refine Wn rfl rfl c1 rfl ?_
      refine Wn rfl rfl c1 rfl ?_
      refine W (ePickT rfl c1 rfl) rfl ?_
      refine W (eMove rfl rfl) rfl ?_
      refine Wn rfl rfl rfl rfl ?_
      refine Wn rfl rfl rfl rfl ?_
      refine Wn rfl rfl rfl rfl ?_
      refine W (ePickT rfl rfl rfl) rfl ?_
      refine W (eMove rfl rfl) rfl ?_
      refine Wn rfl rfl rfl rfl ?_
      refine Wn rfl rfl rfl rfl ?_
      refine Wn rfl rfl rfl rfl ?_
      refine W (ePickT rfl rfl rfl) rfl ?_
      refine wo_end ?_
      exact ⟨tree_Validate_t1 x0 true, by kernel_rfl, true, hF, rfl⟩
    · refine Wy rfl rfl c1 (eFaP rfl (fieldAt ty26 rfl rfl ty3 rfl)) rfl ?_
      refine Wy rfl rfl c1 (eLdP rfl rfl ty3 rfl rfl) rfl ?_
      refine Wy rfl rfl c1 (eBin rfl rfl rfl) rfl ?_
      refine W (ePickF rfl c1 rfl) rfl ?_
      refine W (eMove rfl rfl) rfl ?_
      refine ifT hF (fun c2 hF => ?_) (fun c2 hF => ?_)
      · refine Wn rfl rfl c2 rfl ?_
        refine Wn rfl rfl c2 rfl ?_
        refine Wn rfl rfl c2 rfl ?_
        refine W (ePickT rfl c2 rfl) rfl ?_
        refine W (eMove rfl rfl) rfl ?_
        refine Wn rfl rfl rfl rfl ?_
        refine Wn rfl rfl rfl rfl ?_
        refine Wn rfl rfl rfl rfl ?_
        refine W (ePickT rfl rfl rfl) rfl ?_
        refine wo_end ?_
        exact ⟨tree_Validate_t1 x0 true, by kernel_rfl, true, hF, rfl⟩
      · refine Wy rfl rfl c2 (eFaP rfl (fieldAt ty26 rfl rfl ty3 rfl)) rfl ?_
        refine Wy rfl rfl c2 (eLdP rfl rfl ty3 rfl rfl) rfl ?_
        refine Wy rfl rfl c2 (eBin rfl rfl rfl) rfl ?_
        refine W (ePickF rfl c2 rfl) rfl ?_
        refine W (eMove rfl rfl) rfl ?_
        refine ifT hF (fun c3 hF => ?_) (fun c3 hF => ?_)
        · refine Wn rfl rfl c3 rfl ?_
          refine Wn rfl rfl c3 rfl ?_
          refine Wn rfl rfl c3 rfl ?_
          refine W (ePickT rfl c3 rfl) rfl ?_
          refine wo_end ?_
          exact ⟨tree_Validate_t1 x0 true, by kernel_rfl, true, hF, rfl⟩
        · refine Wy rfl rfl c3 (eFaP rfl (fieldAt ty26 rfl rfl ty3 rfl)) rfl ?_
          refine Wy rfl rfl c3 (eLdP rfl rfl ty3 rfl rfl) rfl ?_
          refine Wy rfl rfl c3 (eBin rfl rfl rfl) rfl ?_
          refine W (ePickF rfl c3 rfl) rfl ?_
          refine wo_end ?_
          exact ⟨tree_Validate_t1 x0 (decide (x0.2.1 > (64 : Int))), by kernel_rfl, (decide (x0.2.1 > (64 : Int))), hF, rfl⟩
  · rintro s ⟨x28, hF, rfl⟩
    unfold tree_Validate_q1 at hF
    refine wIf hF rfl (fun c4 hF => ?_) (fun c4 hF => ?_)
    · refine wR rfl rfl ?_
      refine W (eAsg rfl rfl) rfl ?_
      refine wo_end ?_
      refine wp_ret ?_
      cases hF; exact (And.intro (.inr rfl) (finG rfl rfl (mapC rfl mapN) (fvD rfl ty32 rfl dD fvN) (by kernel_rfl)))
    · refine wp_skip ?_
      refine wR rfl rfl ?_
      refine W (eFn rfl) rfl ?_
      refine W (eAsg rfl rfl) rfl ?_
      refine wo_end ?_
      refine wR rfl rfl ?_
      refine W (eFn rfl) rfl ?_
      refine W (eAsg rfl rfl) rfl ?_
      refine wo_end ?_
      refine wp_seq ?_
      refine wR rfl rfl ?_
      refine W (eFaP rfl (fieldAt ty26 rfl rfl ty22 rfl)) rfl ?_
      refine W (eLdP rfl rfl ty22 rfl rfl) rfl ?_
      refine W (eLen rfl rfl (lenD (isSliceOf ty22 rfl))) rfl ?_
      refine W (eMove rfl rfl) rfl ?_
      refine wo_end ?_
      refine wp_block ?_
      obtain ⟨e279, h280, hF⟩ := bind_some hF
      refine wLoop (Rel := fun (x : Int) s => cutAt h15 h15.pre 6 s = some (tree_Validate_s6 x0 x)) (QE := fun (e : (Unit) ⊕ (Int)) ex s => match e with | (.inl _) => ex = .exit 0 ∧ cutAt h15 h15.pre 11 s = some (tree_Validate_o6_11 x0) | (.inr r0) => ex = .ret ∧ EndsG cx Try.f15 h15.keep 0 (.data (.int .i64) r0) [] ex s) (fun x o281 s hF hs => ?_) h280 (by show _ = _; kernel_rfl) (fun ex s hq => ?_)
      · revert x; intro x34 hF hs
        unfold tree_Validate_l6 at hF
        refine wR hs rfl ?_
        refine W (eBin rfl rfl rfl) rfl ?_
        refine wo_end ?_
        refine wp_seq ?_
        refine wIf hF rfl (fun c9 hF => ?_) (fun c9 hF => ?_)
        · refine wp_skip ?_
          refine wp_seq ?_
          refine wp_block ?_
          refine wR rfl rfl ?_
          obtain ⟨g10, hF⟩ := gd_some hF
          refine W (eIxD rfl rfl (kindOfTy ty22 rfl) g10) rfl ?_
          refine W (eLdA rfl (kindOfTy ty3 rfl)) rfl ?_
          refine W (eAsg rfl rfl) rfl ?_
          refine wo_end ?_
          refine wR rfl rfl ?_
          refine W (eMove rfl rfl) rfl ?_
          refine W (eMove rfl rfl) rfl ?_
          obtain ⟨r49, e11, hF⟩ := bind_some hF
          refine W (eCall rfl rfl (callH (ids := [0]) (roots := [(.box [.data (.int .i64) x0.1, .data (.int .i64) x0.2.1, .data (.slice (.int .i64)) x0.2.2.1, .data (.slice K_api_Leaf) x0.2.2.2.1, .data (.slice K_api_Branch) x0.2.2.2.2.1])]) (v := .data .bool r49) (us := [(0, some (.box [.data (.int .i64) x0.1, .data (.int .i64) x0.2.1, .data (.slice (.int .i64)) x0.2.2.1, .data (.slice K_api_Leaf) x0.2.2.2.1, .data (.slice K_api_Branch) x0.2.2.2.2.1]))]) fn26 rfl rfl (hoD rfl ty3 rfl dD hoN) (by kernel_rfl) (by kernel_rfl) (by kernel_rfl) (by kernel_rfl) (by kernel_rfl) (tree_Validate_2_ok e11) (by kernel_rfl) (by kernel_rfl) (fun _ => by kernel_rfl))) rfl ?_
          refine W (eUn rfl rfl) rfl ?_
          refine wo_end ?_
          refine wIf hF rfl (fun c12 hF => ?_) (fun c12 hF => ?_)
          · refine wR rfl rfl ?_
            refine W (eAsg rfl rfl) rfl ?_
            refine wo_end ?_
            refine wp_ret ?_
            cases hF; exact And.intro (fun h => nomatch h) (And.intro rfl (And.intro (.inr rfl) (finG rfl rfl (mapC rfl mapN) (fvD rfl ty32 rfl dD fvN) (by kernel_rfl))))
          · refine wp_skip ?_
            refine wR1 rfl rfl ?_
            refine W (eBin rfl rfl rfl) rfl ?_
            refine W (eMove rfl rfl) rfl ?_
            refine wo_end ?_
            cases hF; exact And.intro rfl (by show _ = _; kernel_rfl)
        · refine wp_exit ?_
          cases hF; exact And.intro (fun h => nomatch h) (And.intro rfl (by show _ = _; kernel_rfl))
      · rcases e279 with _ | r0
        · obtain ⟨rfl, hs⟩ := hq
          refine wp_seq ?_
          refine wR hs rfl ?_
          refine W (eFaP rfl (fieldAt ty26 rfl rfl ty23 rfl)) rfl ?_
          refine W (eLdP rfl rfl ty23 rfl rfl) rfl ?_
          refine W (eLen rfl rfl (lenD (isSliceOf ty23 rfl))) rfl ?_
          refine W (eMove rfl rfl) rfl ?_
          refine wo_end ?_
          refine wp_block ?_
          obtain ⟨e282, h283, hF⟩ := bind_some hF
          refine wLoop (Rel := fun (x : Int) s => cutAt h15 h15.pre 12 s = some (tree_Validate_s12 x0 x)) (QE := fun (e : (Unit) ⊕ (Int)) ex s => match e with | (.inl _) => ex = .exit 2 ∧ cutAt h15 h15.pre 17 s = some (tree_Validate_o12_17 x0) | (.inr r0b) => ex = .ret ∧ EndsG cx Try.f15 h15.keep 0 (.data (.int .i64) r0b) [] ex s) (fun x o284 s hF hs => ?_) h283 (by show _ = _; kernel_rfl) (fun ex s hq => ?_)
          · revert x; intro x46 hF hs
            unfold tree_Validate_l12 at hF
            refine wR hs rfl ?_
            refine W (eBin rfl rfl rfl) rfl ?_
            refine wo_end ?_
            refine wp_seq ?_
            refine wIf hF rfl (fun c19 hF => ?_) (fun c19 hF => ?_)
            · refine wp_skip ?_
              refine wp_seq ?_
              refine wp_block ?_
              refine wR rfl rfl ?_
              obtain ⟨g20, hF⟩ := gd_some hF
              refine W (eIxD rfl rfl (kindOfTy ty23 rfl) g20) rfl ?_
              refine W (eLdA rfl (kindOfTy ty56 rfl)) rfl ?_
              refine W (eAlloc zero56) rfl ?_
              refine W (eStP rfl rfl rfl rfl ty56 rfl rfl) rfl ?_
              refine wo_end ?_
              refine wRq (M := fun s => ∃ x61, tree_Validate_q14 x0 x46 x61 = some o284 ∧ s = tree_Validate_t14 x0 x46 x61) rfl ?_ ?_
              · refine W (eMove rfl rfl) rfl ?_
                refine W (eFaP rfl (fieldAt ty56 rfl rfl ty3 rfl)) rfl ?_
                refine W (eLdP rfl rfl ty3 rfl rfl) rfl ?_
                obtain ⟨r65, e21, hF⟩ := bind_some hF
                refine W (eCall rfl rfl (callH (ids := [0]) (roots := [(.box [.data (.int .i64) x0.1, .data (.int .i64) x0.2.1, .data (.slice (.int .i64)) x0.2.2.1, .data (.slice K_api_Leaf) x0.2.2.2.1, .data (.slice K_api_Branch) x0.2.2.2.2.1])]) (v := .data .bool r65) (us := [(0, some (.box [.data (.int .i64) x0.1, .data (.int .i64) x0.2.1, .data (.slice (.int .i64)) x0.2.2.1, .data (.slice K_api_Leaf) x0.2.2.2.1, .data (.slice K_api_Branch) x0.2.2.2.2.1]))]) fn25 rfl rfl (hoD rfl ty3 rfl dD hoN) (by kernel_rfl) (by kernel_rfl) (by kernel_rfl) (by kernel_rfl) (by kernel_rfl) (tree_Validate_1_ok e21) (by kernel_rfl) (by kernel_rfl) (fun _ => by kernel_rfl))) rfl ?_
                refine W (eUn rfl rfl) rfl ?_
                refine W (eMove rfl rfl) rfl ?_
                refine ifT hF (fun c22 hF => ?_) (fun c22 hF => ?_)
                · refine Wn rfl rfl c22 rfl ?_
                  refine Wn rfl rfl c22 rfl ?_
                  refine Wn rfl rfl c22 rfl ?_
                  refine Wn rfl rfl c22 rfl ?_
                  refine Wn rfl rfl c22 rfl ?_
                  refine W (ePickT rfl c22 rfl) rfl ?_
                  refine wo_end ?_
                  exact ⟨tree_Validate_t14 x0 x46 true, by kernel_rfl, true, hF, rfl⟩
                · refine Wy rfl rfl c22 (eMove rfl rfl) rfl ?_
                  refine Wy rfl rfl c22 (eFaP rfl (fieldAt ty56 rfl rfl ty3 rfl)) rfl ?_
                  refine Wy rfl rfl c22 (eLdP rfl rfl ty3 rfl rfl) rfl ?_
                  obtain ⟨r113, e23, hF⟩ := bind_some hF
                  refine Wy rfl rfl c22 (eCall rfl rfl (callH (ids := [0]) (roots := [(.box [.data (.int .i64) x0.1, .data (.int .i64) x0.2.1, .data (.slice (.int .i64)) x0.2.2.1, .data (.slice K_api_Leaf) x0.2.2.2.1, .data (.slice K_api_Branch) x0.2.2.2.2.1])]) (v := .data .bool r113) (us := [(0, some (.box [.data (.int .i64) x0.1, .data (.int .i64) x0.2.1, .data (.slice (.int .i64)) x0.2.2.1, .data (.slice K_api_Leaf) x0.2.2.2.1, .data (.slice K_api_Branch) x0.2.2.2.2.1]))]) fn26 rfl rfl (hoD rfl ty3 rfl dD hoN) (by kernel_rfl) (by kernel_rfl) (by kernel_rfl) (by kernel_rfl) (by kernel_rfl) (tree_Validate_2_ok e23) (by kernel_rfl) (by kernel_rfl) (fun _ => by kernel_rfl))) rfl ?_
                  refine Wy rfl rfl c22 (eUn rfl rfl) rfl ?_
                  refine W (ePickF rfl c22 rfl) rfl ?_
                  refine wo_end ?_
                  exact ⟨tree_Validate_t14 x0 x46 (!r113), by kernel_rfl, (!r113), hF, rfl⟩
              · rintro s ⟨x61, hF, rfl⟩
                unfold tree_Validate_q14 at hF
                refine wIf hF rfl (fun c24 hF => ?_) (fun c24 hF => ?_)
                · refine wR rfl rfl ?_
                  refine W (eAsg rfl rfl) rfl ?_
                  refine wo_end ?_
                  refine wp_ret ?_
                  cases hF; exact And.intro (fun h => nomatch h) (And.intro rfl (And.intro (.inr rfl) (finG rfl rfl (mapC rfl mapN) (fvD rfl ty32 rfl dD fvN) (by kernel_rfl))))
                · refine wp_skip ?_
                  refine wR1 rfl rfl ?_
                  refine W (eBin rfl rfl rfl) rfl ?_
                  refine W (eMove rfl rfl) rfl ?_
                  refine wo_end ?_
                  cases hF; exact And.intro rfl (by show _ = _; kernel_rfl)
            · refine wp_exit ?_
              cases hF; exact And.intro (fun h => nomatch h) (And.intro rfl (by show _ = _; kernel_rfl))
          · rcases e282 with _ | r0b
            · obtain ⟨rfl, hs⟩ := hq
              refine wp_seq ?_
              refine wR hs rfl ?_
              refine W (eFaP rfl (fieldAt ty26 rfl rfl ty24 rfl)) rfl ?_
              refine W (eLdP rfl rfl ty24 rfl rfl) rfl ?_
              refine W (eLen rfl rfl (lenD (isSliceOf ty24 rfl))) rfl ?_
              refine W (eMove rfl rfl) rfl ?_
              refine wo_end ?_
              refine wp_block ?_
              obtain ⟨e285, h286, hF⟩ := bind_some hF
              refine wLoop (Rel := fun (x : Int) s => cutAt h15 h15.pre 18 s = some (tree_Validate_s18 x0 x)) (QE := fun (e : (Unit) ⊕ (Int)) ex s => match e with | (.inl _) => ex = .exit 4 ∧ cutAt h15 h15.pre 23 s = some (tree_Validate_o18_23) | (.inr r0c) => ex = .ret ∧ EndsG cx Try.f15 h15.keep 0 (.data (.int .i64) r0c) [] ex s) (fun x o287 s hF hs => ?_) h286 (by show _ = _; kernel_rfl) (fun ex s hq => ?_)
              · revert x; intro x66 hF hs
                unfold tree_Validate_l18 at hF
                refine wR hs rfl ?_
                refine W (eBin rfl rfl rfl) rfl ?_
                refine wo_end ?_
                refine wp_seq ?_
                refine wIf hF rfl (fun c35 hF => ?_) (fun c35 hF => ?_)
                · refine wp_skip ?_
                  refine wp_seq ?_
                  refine wp_block ?_
                  refine wR rfl rfl ?_
                  obtain ⟨g36, hF⟩ := gd_some hF
                  refine W (eIxD rfl rfl (kindOfTy ty24 rfl) g36) rfl ?_
                  refine W (eLdA rfl (kindOfTy ty58 rfl)) rfl ?_
                  refine W (eAlloc zero58) rfl ?_
                  refine W (eStP rfl rfl rfl rfl ty58 rfl rfl) rfl ?_
                  refine wo_end ?_
                  refine wRq (M := fun s => ∃ x95, tree_Validate_q20 x0 x66 x95 = some o287 ∧ s = tree_Validate_t20 x0 x66 x95) rfl ?_ ?_
                  · refine W (eMove rfl rfl) rfl ?_
                    refine W (eFaP rfl (fieldAt ty58 rfl rfl ty3 rfl)) rfl ?_
                    refine W (eLdP rfl rfl ty3 rfl rfl) rfl ?_
                    obtain ⟨r65b, e37, hF⟩ := bind_some hF
                    refine W (eCall rfl rfl (callH (ids := [0]) (roots := [(.box [.data (.int .i64) x0.1, .data (.int .i64) x0.2.1, .data (.slice (.int .i64)) x0.2.2.1, .data (.slice K_api_Leaf) x0.2.2.2.1, .data (.slice K_api_Branch) x0.2.2.2.2.1])]) (v := .data .bool r65b) (us := [(0, some (.box [.data (.int .i64) x0.1, .data (.int .i64) x0.2.1, .data (.slice (.int .i64)) x0.2.2.1, .data (.slice K_api_Leaf) x0.2.2.2.1, .data (.slice K_api_Branch) x0.2.2.2.2.1]))]) fn25 rfl rfl (hoD rfl ty3 rfl dD hoN) (by kernel_rfl) (by kernel_rfl) (by kernel_rfl) (by kernel_rfl) (by kernel_rfl) (tree_Validate_1_ok e37) (by kernel_rfl) (by kernel_rfl) (fun _ => by kernel_rfl))) rfl ?_
                    refine W (eUn rfl rfl) rfl ?_
                    refine W (eMove rfl rfl) rfl ?_
                    refine ifT hF (fun c38 hF => ?_) (fun c38 hF => ?_)
                    · refine Wn rfl rfl c38 rfl ?_
                      refine Wn rfl rfl c38 rfl ?_
                      refine Wn rfl rfl c38 rfl ?_
                      refine Wn rfl rfl c38 rfl ?_
                      refine Wn rfl rfl c38 rfl ?_
                      refine W (ePickT rfl c38 rfl) rfl ?_
                      refine W (eMove rfl rfl) rfl ?_
                      refine Wn rfl rfl rfl rfl ?_
                      refine Wn rfl rfl rfl rfl ?_
                      refine Wn rfl rfl rfl rfl ?_
                      refine Wn rfl rfl rfl rfl ?_
                      refine Wn rfl rfl rfl rfl ?_
                      refine W (ePickT rfl rfl rfl) rfl ?_
                      refine W (eMove rfl rfl) rfl ?_
                      refine Wn rfl rfl rfl rfl ?_
                      refine Wn rfl rfl rfl rfl ?_
                      refine Wn rfl rfl rfl rfl ?_
                      refine Wn rfl rfl rfl rfl ?_
                      refine Wn rfl rfl rfl rfl ?_
                      refine W (ePickT rfl rfl rfl) rfl ?_
                      refine wo_end ?_
                      exact ⟨tree_Validate_t20 x0 x66 true, by kernel_rfl, true, hF, rfl⟩
                    · refine Wy rfl rfl c38 (eMove rfl rfl) rfl ?_
                      refine Wy rfl rfl c38 (eFaP rfl (fieldAt ty58 rfl rfl ty3 rfl)) rfl ?_
                      refine Wy rfl rfl c38 (eLdP rfl rfl ty3 rfl rfl) rfl ?_
                      obtain ⟨r113b, e39, hF⟩ := bind_some hF
                      refine Wy rfl rfl c38 (eCall rfl rfl (callH (ids := [0]) (roots := [(.box [.data (.int .i64) x0.1, .data (.int .i64) x0.2.1, .data (.slice (.int .i64)) x0.2.2.1, .data (.slice K_api_Leaf) x0.2.2.2.1, .data (.slice K_api_Branch) x0.2.2.2.2.1])]) (v := .data .bool r113b) (us := [(0, some (.box [.data (.int .i64) x0.1, .data (.int .i64) x0.2.1, .data (.slice (.int .i64)) x0.2.2.1, .data (.slice K_api_Leaf) x0.2.2.2.1, .data (.slice K_api_Branch) x0.2.2.2.2.1]))]) fn26 rfl rfl (hoD rfl ty3 rfl dD hoN) (by kernel_rfl) (by kernel_rfl) (by kernel_rfl) (by kernel_rfl) (by kernel_rfl) (tree_Validate_2_ok e39) (by kernel_rfl) (by kernel_rfl) (fun _ => by kernel_rfl))) rfl ?_
                      refine Wy rfl rfl c38 (eUn rfl rfl) rfl ?_
                      refine W (ePickF rfl c38 rfl) rfl ?_
                      refine W (eMove rfl rfl) rfl ?_
                      refine ifT hF (fun c40 hF => ?_) (fun c40 hF => ?_)
                      · refine Wn rfl rfl c40 rfl ?_
                        refine Wn rfl rfl c40 rfl ?_
                        refine Wn rfl rfl c40 rfl ?_
                        refine Wn rfl rfl c40 rfl ?_
                        refine Wn rfl rfl c40 rfl ?_
                        refine W (ePickT rfl c40 rfl) rfl ?_
                        refine W (eMove rfl rfl) rfl ?_
                        refine Wn rfl rfl rfl rfl ?_
                        refine Wn rfl rfl rfl rfl ?_
                        refine Wn rfl rfl rfl rfl ?_
                        refine Wn rfl rfl rfl rfl ?_
                        refine Wn rfl rfl rfl rfl ?_
                        refine W (ePickT rfl rfl rfl) rfl ?_
                        refine wo_end ?_
                        exact ⟨tree_Validate_t20 x0 x66 true, by kernel_rfl, true, hF, rfl⟩
                      · refine Wy rfl rfl c40 (eMove rfl rfl) rfl ?_
                        refine Wy rfl rfl c40 (eFaP rfl (fieldAt ty58 rfl rfl ty3 rfl)) rfl ?_
                        refine Wy rfl rfl c40 (eLdP rfl rfl ty3 rfl rfl) rfl ?_
                        obtain ⟨r169, e41, hF⟩ := bind_some hF
                        refine Wy rfl rfl c40 (eCall rfl rfl (callH (ids := [0]) (roots := [(.box [.data (.int .i64) x0.1, .data (.int .i64) x0.2.1, .data (.slice (.int .i64)) x0.2.2.1, .data (.slice K_api_Leaf) x0.2.2.2.1, .data (.slice K_api_Branch) x0.2.2.2.2.1])]) (v := .data .bool r169) (us := [(0, some (.box [.data (.int .i64) x0.1, .data (.int .i64) x0.2.1, .data (.slice (.int .i64)) x0.2.2.1, .data (.slice K_api_Leaf) x0.2.2.2.1, .data (.slice K_api_Branch) x0.2.2.2.2.1]))]) fn26 rfl rfl (hoD rfl ty3 rfl dD hoN) (by kernel_rfl) (by kernel_rfl) (by kernel_rfl) (by kernel_rfl) (by kernel_rfl) (tree_Validate_2_ok e41) (by kernel_rfl) (by kernel_rfl) (fun _ => by kernel_rfl))) rfl ?_
                        refine Wy rfl rfl c40 (eUn rfl rfl) rfl ?_
                        refine W (ePickF rfl c40 rfl) rfl ?_
                        refine W (eMove rfl rfl) rfl ?_
                        refine ifT hF (fun c42 hF => ?_) (fun c42 hF => ?_)
                        · refine Wn rfl rfl c42 rfl ?_
                          refine Wn rfl rfl c42 rfl ?_
                          refine Wn rfl rfl c42 rfl ?_
                          refine Wn rfl rfl c42 rfl ?_
                          refine Wn rfl rfl c42 rfl ?_
                          refine W (ePickT rfl c42 rfl) rfl ?_
                          refine wo_end ?_
                          exact ⟨tree_Validate_t20 x0 x66 true, by kernel_rfl, true, hF, rfl⟩
                        · refine Wy rfl rfl c42 (eMove rfl rfl) rfl ?_
                          refine Wy rfl rfl c42 (eFaP rfl (fieldAt ty58 rfl rfl ty3 rfl)) rfl ?_
                          refine Wy rfl rfl c42 (eLdP rfl rfl ty3 rfl rfl) rfl ?_
                          obtain ⟨r225, e43, hF⟩ := bind_some hF
                          refine Wy rfl rfl c42 (eCall rfl rfl (callH (ids := [0]) (roots := [(.box [.data (.int .i64) x0.1, .data (.int .i64) x0.2.1, .data (.slice (.int .i64)) x0.2.2.1, .data (.slice K_api_Leaf) x0.2.2.2.1, .data (.slice K_api_Branch) x0.2.2.2.2.1])]) (v := .data .bool r225) (us := [(0, some (.box [.data (.int .i64) x0.1, .data (.int .i64) x0.2.1, .data (.slice (.int .i64)) x0.2.2.1, .data (.slice K_api_Leaf) x0.2.2.2.1, .data (.slice K_api_Branch) x0.2.2.2.2.1]))]) fn26 rfl rfl (hoD rfl ty3 rfl dD hoN) (by kernel_rfl) (by kernel_rfl) (by kernel_rfl) (by kernel_rfl) (by kernel_rfl) (tree_Validate_2_ok e43) (by kernel_rfl) (by kernel_rfl) (fun _ => by kernel_rfl))) rfl ?_
                          refine Wy rfl rfl c42 (eUn rfl rfl) rfl ?_
                          refine W (ePickF rfl c42 rfl) rfl ?_
                          refine wo_end ?_
                          exact ⟨tree_Validate_t20 x0 x66 (!r225), by kernel_rfl, (!r225), hF, rfl⟩
                  · rintro s ⟨x95, hF, rfl⟩
                    unfold tree_Validate_q20 at hF
                    refine wIf hF rfl (fun c44 hF => ?_) (fun c44 hF => ?_)
                    · refine wR rfl rfl ?_
                      refine W (eAsg rfl rfl) rfl ?_
                      refine wo_end ?_
                      refine wp_ret ?_
                      cases hF; exact And.intro (fun h => nomatch h) (And.intro rfl (And.intro (.inr rfl) (finG rfl rfl (mapC rfl mapN) (fvD rfl ty32 rfl dD fvN) (by kernel_rfl))))
                    · refine wp_skip ?_
                      refine wR1 rfl rfl ?_
                      refine W (eBin rfl rfl rfl) rfl ?_
                      refine W (eMove rfl rfl) rfl ?_
                      refine wo_end ?_
                      cases hF; exact And.intro rfl (by show _ = _; kernel_rfl)
                · refine wp_exit ?_
                  cases hF; exact And.intro (fun h => nomatch h) (And.intro rfl (by show _ = _; kernel_rfl))
              · rcases e285 with _ | r0c
                · obtain ⟨rfl, hs⟩ := hq
                  refine wR hs rfl ?_
                  refine W (eAsg rfl rfl) rfl ?_
                  refine wo_end ?_
                  refine wp_ret ?_
                  cases hF; exact (And.intro (.inr rfl) (finG rfl rfl (mapC rfl mapN) (fvD rfl ty32 rfl dD fvN) (by kernel_rfl)))
                · obtain ⟨rfl, hq⟩ := hq
                  cases hF; exact hq
            · obtain ⟨rfl, hq⟩ := hq
              cases hF; exact hq
        · obtain ⟨rfl, hq⟩ := hq
          cases hF; exact hq

end Go.Lite.Fam
end
