/-
  A region that draws its order, walked once, in the order of the text: what each operation does to the others is told by its class (pure, load, alloc, effect).
  Conditions: the static look 'rtB' (kernel) at the region's edges; behind the walk the look 'rtV' at the values of arithmetic operands.
-/
import Derived.Orders
import Derived.Tactics
import Derived.Below
namespace Go.Rt
open Go.RowKit

inductive Cls where
  | pure | load | alloc | eff | sload | sact
  deriving DecidableEq

/-- One result in every world, or none in any. -/
def Blind (P : Program) {α : Type} (e : Sem α) : Prop := (∃ x, ∀ w, e.run P w = .ok x w) ∨ (∀ w x w', e.run P w ≠ .ok x w')

section
variable {P : Program} {α β : Type}
theorem blind_pure (x : α) : Blind P (Pure.pure x : Sem α) := .inl ⟨x, fun _ => rfl⟩
theorem blind_never {e : Sem α} (h : ∀ w x w', e.run P w ≠ .ok x w') : Blind P e := .inr h
theorem blind_bind {e : Sem α} {f : α → Sem β} (h : Blind P e) (hf : ∀ x, Blind P (f x)) : Blind P (e >>= f) := by
  rcases h with ⟨x, hx⟩ | hn
  · rcases hf x with ⟨y, hy⟩ | hn
    · exact .inl ⟨y, fun w => by simp [hx w, hy w]⟩
    · exact .inr fun w y w' => by simp [hx w]; exact hn w y w'
  · refine .inr fun w y w' => ?_
    rw [Sem.run_bind]
    cases h : e.run P w with
    | ok a w1 => exact absurd h (hn _ _ _)
    | halt h w1 => simp [Result.andThen]
theorem blind_program : Blind P program := .inl ⟨P, fun _ => rfl⟩
theorem blind_stuck (s : String) : Blind P (stuck s : Sem α) := .inr fun _ _ _ h => by simp at h
theorem blind_unsupported (s : Unsupported) : Blind P (unsupported s : Sem α) := .inr fun _ _ _ h => by simp at h
theorem never_bind {e : Sem α} {f : α → Sem β} (hf : ∀ x w y w', (f x).run P w ≠ .ok y w') : ∀ w y w', (e >>= f).run P w ≠ .ok y w' := by
  intro w y w'
  rw [Sem.run_bind]
  cases h : e.run P w with
  | ok a w1 => simpa [Result.andThen] using hf a w1 y w'
  | halt h w1 => simp [Result.andThen]
theorem never_goPanic (v : Value) : ∀ w y w', (goPanic v : Sem α).run P w ≠ .ok y w' := fun w y w' h => by simp at h
theorem never_runtimePanic (e : RuntimeError) : ∀ w y w', (runtimePanic e : Sem α).run P w ≠ .ok y w' := by
  unfold runtimePanic
  refine never_bind fun p => ?_
  cases e <;> dsimp only <;> first | exact never_goPanic _ | (repeat' first | exact never_goPanic _ | refine never_bind fun _ => ?_)
theorem blind_runtimePanic (e : RuntimeError) : Blind P (runtimePanic e : Sem α) := .inr (never_runtimePanic e)
theorem blind_boundsPanic (k : IntKind) (x y : Int) (c : BoundsCode) : Blind P (boundsPanic k x y c : Sem α) := by
  refine .inr ?_
  unfold boundsPanic
  dsimp only
  split <;> exact never_bind fun _ => never_runtimePanic _
theorem blind_underlying (t : TypeId) : Blind P (underlying t) := by
  unfold underlying
  refine blind_bind blind_program fun p => ?_
  split
  · exact blind_pure _
  · exact blind_stuck _
theorem blind_typeInfo (t : TypeId) : Blind P (typeInfo t) := by
  unfold typeInfo
  refine blind_bind blind_program fun p => ?_
  split
  · exact blind_pure _
  · exact blind_stuck _
theorem blind_sizeOf (t : TypeId) : Blind P (sizeOf t) := blind_bind (blind_typeInfo t) fun _ => blind_pure _
theorem blind_zeroValue (t : TypeId) : Blind P (zeroValue t) := by
  unfold zeroValue
  refine blind_bind (blind_typeInfo t) fun i => ?_
  split
  · exact blind_pure _
  · exact blind_unsupported _
theorem blind_isAgg (t : TypeId) : Blind P (isAgg t) := by
  unfold isAgg
  refine blind_bind (blind_underlying t) fun d => ?_
  split <;> exact blind_pure _
theorem blind_ite (c : Prop) [Decidable c] {x y : Sem α} (hx : Blind P x) (hy : Blind P y) : Blind P (if c then x else y) := by
  split <;> assumption
theorem blind_part (t : TypeId) (cs : Array Value) (off : Nat) : Blind P (part t cs off) := by
  unfold part
  refine blind_bind (blind_isAgg t) fun b => blind_ite _ ?_ ?_
  · exact blind_bind (blind_sizeOf t) fun _ => blind_pure _
  · split
    · exact blind_pure _
    · exact blind_stuck _
theorem blind_asBool (v : Value) : Blind P (asBool v) := by
  unfold asBool
  split
  · exact blind_pure _
  · exact blind_stuck _
theorem blind_asIntOf (v : Value) : Blind P (asIntOf v) := by
  unfold asIntOf
  split
  · exact blind_pure _
  · exact blind_unsupported _
  · exact blind_stuck _
theorem blind_asAgg (v : Value) : Blind P (asAgg v) := by
  unfold asAgg
  split
  · exact blind_pure _
  · exact blind_stuck _
theorem blind_sureAddr (v : Value) : Blind P (Instr.sureAddr v) := by
  unfold Instr.sureAddr
  split
  · exact blind_pure _
  · exact blind_stuck _
theorem blind_asAddr (v : Value) : Blind P (asAddr v) := by
  unfold asAddr
  split
  · exact blind_pure _
  · exact blind_runtimePanic _
  · exact blind_stuck _
theorem blind_field (t : TypeId) (x : Value) (f : Nat) : Blind P (Instr.field t x f) := by
  unfold Instr.field
  refine blind_bind (blind_underlying t) fun d => ?_
  split
  · split
    · exact blind_bind (blind_asAgg _) fun _ => blind_part _ _ _
    · exact blind_stuck _
  · exact blind_stuck _
theorem blind_index (t : TypeId) (x i : Value) : Blind P (Instr.index t x i) := by
  unfold Instr.index
  refine blind_bind (blind_asIntOf _) fun ki => blind_bind (blind_underlying t) fun d => ?_
  split
  · exact blind_ite _ (blind_bind (blind_sizeOf _) fun _ => blind_part _ _ _) (blind_boundsPanic _ _ _ _)
  · split
    · exact blind_pure _
    · exact blind_boundsPanic _ _ _ _
  · exact blind_stuck _
theorem blind_indexAt (t : TypeId) (x i : Value) : Blind P (Instr.indexAt t x i) := by
  unfold Instr.indexAt
  refine blind_bind (blind_asIntOf _) fun ki => blind_bind (blind_underlying t) fun d => ?_
  have key : ∀ z : Option Addr × Nat × TypeId, Blind P (do
      let tiny := z.2.1 ≤ 1 && (match ← underlying t with | .array .. => true | _ => false)
      match z.1 with
      | some a =>
        if 0 ≤ ki.2 ∧ ki.2 < z.2.1 then pure (.pointer (some (a.add (ki.2.toNat * (← sizeOf z.2.2)))))
        else if tiny then unsupported (.noEntry "op/indexAddr.an index out of range at an array of length 0 or 1 (ledger 616)")
        else boundsPanic ki.1 ki.2 z.2.1 .index
      | none => boundsPanic ki.1 ki.2 0 .index : Sem Value) := fun z => by
    refine blind_bind (blind_underlying t) fun d2 => ?_
    dsimp only
    split
    · refine blind_ite _ (blind_bind (blind_sizeOf _) fun _ => blind_pure _) (blind_ite _ (blind_unsupported _) (blind_boundsPanic _ _ _ _))
    · exact blind_boundsPanic _ _ _ _
  dsimp only
  split
  · exact blind_bind (blind_sureAddr _) fun a => blind_bind (blind_pure _) fun z => key z
  · exact blind_bind (blind_pure _) fun z => key z
  · exact blind_bind (blind_stuck _) fun z => key z
theorem blind_sliceBound (x : Value) (y : Nat) (c : BoundsCode) : Blind P (Instr.sliceBound x y c) := by
  unfold Instr.sliceBound
  refine blind_bind (blind_asIntOf _) fun ki => ?_
  exact blind_ite _ (blind_pure _) (blind_boundsPanic _ _ _ _)
theorem blind_sliceBounds (s : Bool) (l c : Nat) (lo hi mx : Option Value) : Blind P (Instr.sliceBounds s l c lo hi mx) := by
  unfold Instr.sliceBounds
  cases lo <;> cases hi <;> cases mx <;> dsimp only <;> (repeat' first | exact blind_pure _ | exact blind_stuck _ | exact blind_sliceBound _ _ _ | refine blind_bind ?_ fun _ => ?_)
theorem blind_slice (t : TypeId) (x : Value) (lo hi mx : Option Value) : Blind P (Instr.slice t x lo hi mx) := by
  unfold Instr.slice
  refine blind_bind (blind_underlying t) fun d => ?_
  split
  · refine blind_ite _ (blind_bind (blind_stuck _) fun _ => ?_) ?_
    · exact blind_bind (blind_sliceBounds _ _ _ _ _ _) fun _ => blind_pure _
    · exact blind_bind (blind_sliceBounds _ _ _ _ _ _) fun _ => blind_pure _
  · exact blind_bind (blind_sliceBounds _ _ _ _ _ _) fun _ => blind_bind (blind_sizeOf _) fun _ => blind_pure _
  · refine blind_bind (blind_asAddr _) fun a => blind_bind (blind_underlying _) fun d => ?_
    split
    · exact blind_bind (blind_sliceBounds _ _ _ _ _ _) fun _ => blind_bind (blind_sizeOf _) fun _ => blind_pure _
    · exact blind_stuck _
  · exact blind_stuck _
theorem blind_sliceAt (t : TypeId) (x : Value) (lo hi mx : Option Value) : Blind P (Instr.sliceAt t x lo hi mx) := by
  unfold Instr.sliceAt
  refine blind_bind (blind_underlying t) fun d => ?_
  split
  · exact blind_bind (blind_sureAddr _) fun a => blind_bind (blind_sliceBounds _ _ _ _ _ _) fun _ => blind_bind (blind_sizeOf _) fun _ => blind_pure _
  · exact blind_slice _ _ _ _ _
theorem blind_mapM (f : Field → Sem (Nat × Nat)) (hf : ∀ x, Blind P (f x)) : ∀ l : List Field, Blind P (l.mapM f)
  | [] => blind_pure _
  | x :: l => by
    rw [List.mapM_cons]
    exact blind_bind (hf x) fun _ => blind_bind (blind_mapM f hf l) fun _ => blind_pure _
theorem blind_amapM (f : Field → Sem (Nat × Nat)) (hf : ∀ x, Blind P (f x)) (l : Array Field) : Blind P (l.mapM f) := by
  rw [Array.mapM_eq_mapM_toList]
  exact blind_bind (blind_mapM f hf _) fun _ => blind_pure _
theorem blind_build (t : TypeId) (ps : Array (Nat × Value)) : Blind P (Instr.build t ps) := by
  unfold Instr.build
  refine blind_bind (blind_zeroValue t) fun z => blind_bind (blind_underlying t) fun d => ?_
  split
  · refine blind_bind (blind_amapM _ (fun x => blind_bind (blind_sizeOf _) fun _ => blind_pure _) _) fun pl => ?_
    split
    · exact blind_pure _
    · exact blind_stuck _
  · refine blind_bind (blind_sizeOf _) fun s => ?_
    split
    · exact blind_pure _
    · exact blind_stuck _
  · exact blind_stuck _
theorem blind_unary (op : UnOp) (x : Value) : Blind P (Op.unary op x) := by
  unfold Op.unary
  split
  · unfold Op.intArith; exact blind_pure _
  · unfold Op.intBits; exact blind_pure _
  · exact blind_pure _
  · exact blind_pure _
  · exact blind_pure _
  · exact blind_unsupported _
  · exact blind_unsupported _
  · exact blind_stuck _
theorem blind_extract (x : Value) (i : Nat) : Blind P (Instr.extract x i) := by
  unfold Instr.extract
  split
  · split
    · exact blind_pure _
    · exact blind_stuck _
  · exact blind_stuck _
theorem blind_makeInterface (t : TypeId) (x : Value) : Blind P (Instr.makeInterface t x) := by
  unfold Instr.makeInterface
  refine blind_bind (blind_underlying t) fun d => ?_
  split
  · exact blind_stuck _
  · exact blind_pure _
theorem blind_intArith (op : BinOp) (k : IntKind) (x y : Int) : Blind P (Op.intArith op k x y) := by
  unfold Op.intArith; split <;> first | exact blind_pure _ | exact blind_stuck _
theorem blind_intDiv (op : BinOp) (k : IntKind) (x y : Int) : Blind P (Op.intDiv op k x y) := by
  unfold Op.intDiv; refine blind_ite _ (blind_runtimePanic _) ?_; split <;> first | exact blind_pure _ | exact blind_stuck _
theorem blind_intBits (op : BinOp) (k : IntKind) (x y : Int) : Blind P (Op.intBits op k x y) := by
  unfold Op.intBits; dsimp only; split <;> first | exact blind_pure _ | exact blind_stuck _
theorem blind_intCmp (op : BinOp) (x y : Int) : Blind P (Op.intCmp op x y) := by
  unfold Op.intCmp; split <;> first | exact blind_pure _ | exact blind_stuck _
theorem blind_shift (op : BinOp) (k : IntKind) (x : Int) (k2 : IntKind) (y : Int) : Blind P (Op.shift op k x k2 y) := by
  unfold Op.shift; refine blind_ite _ (blind_runtimePanic _) ?_; dsimp only; split <;> first | exact blind_pure _ | exact blind_stuck _
theorem blind_stringOp (op : BinOp) (x y : ByteArray) : Blind P (Op.stringOp op x y) := by
  unfold Op.stringOp; dsimp only; split <;> first | exact blind_pure _ | exact blind_stuck _ | exact blind_ite _ (blind_unsupported _) (blind_pure _)
theorem blind_binOp_int (op : BinOp) (t : TypeId) (k k' : IntKind) (a b : Int) : Blind P (binOp op t (.int k a) (.int k' b)) := by
  cases op <;> simp only [binOp] <;> (repeat' first | exact blind_shift _ _ _ _ _ | exact blind_intArith _ _ _ _ | exact blind_intDiv _ _ _ _ | exact blind_intBits _ _ _ _ | exact blind_intCmp _ _ _ | exact blind_stuck _ | refine blind_ite _ ?_ ?_)
theorem blind_binOp_string (op : BinOp) (t : TypeId) (a b : ByteArray) : Blind P (binOp op t (.string a) (.string b)) := by
  cases op <;> simp only [binOp] <;> exact blind_stringOp _ _ _
theorem blind_equal_bool (t : TypeId) (a b : Bool) : Blind P (Op.equal t (.bool a) (.bool b)) := by
  have he : ∀ n, Blind P (Op.equalIn (n + 1) t (.bool a) (.bool b)) := fun n => by
    simp only [Op.equalIn]
    refine blind_bind (blind_underlying t) fun d => ?_
    cases d <;> first | exact blind_pure _ | exact blind_stuck _
  exact he 9999
theorem blind_binOp_bool (op : BinOp) (t : TypeId) (a b : Bool) : Blind P (binOp op t (.bool a) (.bool b)) := by
  cases op <;> simp only [binOp] <;> first | exact blind_stuck _ | exact blind_bind (blind_equal_bool _ _ _) fun _ => blind_pure _
theorem blind_len (ts : Array TypeId) (t : TypeId) (A : Option Addr) (n c : Nat) : Blind P (Builtin.len_ ts t #[.slice A n c]) := by
  unfold Builtin.len_
  cases h : (ts[0]?) with
  | none => exact blind_stuck _
  | some t =>
    refine blind_bind (blind_underlying t) fun d => ?_
    cases d <;> first | exact blind_pure _ | exact blind_stuck _ | skip
    refine blind_bind (blind_underlying _) fun d => ?_
    cases d <;> first | exact blind_pure _ | exact blind_stuck _
theorem blind_len_str (ts : Array TypeId) (t : TypeId) (s : ByteArray) : Blind P (Builtin.len_ ts t #[.string s]) := by
  unfold Builtin.len_
  cases h : (ts[0]?) with
  | none => exact blind_stuck _
  | some t =>
    refine blind_bind (blind_underlying t) fun d => ?_
    cases d <;> first | exact blind_pure _ | exact blind_stuck _ | skip
    refine blind_bind (blind_underlying _) fun d => ?_
    cases d <;> first | exact blind_pure _ | exact blind_stuck _
theorem blind_cap (ts : Array TypeId) (t : TypeId) (A : Option Addr) (n c : Nat) : Blind P (Builtin.cap_ ts t #[.slice A n c]) := by
  unfold Builtin.cap_
  cases h : (ts[0]?) with
  | none => exact blind_stuck _
  | some t =>
    refine blind_bind (blind_underlying t) fun d => ?_
    cases d <;> first | exact blind_pure _ | exact blind_stuck _ | skip
    refine blind_bind (blind_underlying _) fun d => ?_
    cases d <;> first | exact blind_pure _ | exact blind_stuck _
theorem blind_convert_int (src dst : TypeId) (k k2 : IntKind) (n : Int) (hd : P.underlying dst = some (.int k2)) : Blind P (convert src dst (.int k n)) := by
  unfold convert
  rcases blind_underlying (P := P) src with ⟨d, hd1⟩ | hn
  · refine .inl ⟨.int k2 (k2.wrap n), fun w => ?_⟩
    have h2 : (underlying dst).run P w = .ok (.int k2) w := by simp [underlying, hd]
    simp only [Sem.run_bind, hd1 w, Result.andThen_ok, h2]
    rfl
  · refine .inr fun w x w' => ?_
    rw [Sem.run_bind]
    cases h : (underlying src).run P w with
    | ok a w1 => exact absurd h (hn _ _ _)
    | halt h w1 => simp [Result.andThen]
theorem blind_fieldAt (s : TypeId) (v : Value) (f : Nat) (hf : ∀ fs, P.underlying s = some (.struct fs) → ∀ x, fs[f]? = some x → ∀ i, P.info? x.type = some i → i.size ≠ 0) : Blind P (Instr.fieldAt s v f) := by
  unfold Instr.fieldAt
  cases hu : P.underlying s with
  | none => exact .inr fun w x w' => by simp [underlying, hu]
  | some d =>
    have hr : ∀ w, (underlying s).run P w = .ok d w := fun w => by simp [underlying, hu]
    have key : ∀ {γ : Type} (g : TypeDesc → Sem γ), Blind P (g d) → Blind P (underlying s >>= g) := fun g hg => by
      rcases hg with ⟨y, hy⟩ | hn
      · exact .inl ⟨y, fun w => by simp [hr w, hy w]⟩
      · exact .inr fun w y w' => by simp [hr w]; exact hn w y w'
    refine key _ ?_
    cases d <;> first | exact blind_stuck _ | skip
    rename_i fs
    dsimp only
    cases hx : fs[f]? with
    | none => exact blind_stuck _
    | some x =>
      dsimp only
      refine blind_bind (blind_sureAddr v) fun a => blind_bind ?_ fun _ => blind_pure _
      unfold fieldPlace
      cases hi : P.info? x.type with
      | none => exact .inr fun w y w' => by simp [sizeOf, typeInfo, hi]
      | some i =>
        have hne := hf fs hu x hx i hi
        exact .inl ⟨a.add x.offset, fun w => by simp [sizeOf, typeInfo, hi, hne]⟩
end

/-! ### classes -/
def fieldSized (P : Program) (s : TypeId) (f : Nat) : Bool :=
  match P.underlying s with
  | some (.struct fs) => match fs[f]? with
    | some x => match P.info? x.type with
      | some i => i.size != 0
      | none => true
    | none => true
  | _ => true

def intType (P : Program) (t : TypeId) : Bool := match P.underlying t with | some (.int _) => true | _ => false

def clsOf (P : Program) (o : Oper) : Cls :=
  match o.op with
  | .move _ | .assign _ | .pick .. | .build .. | .unOp .. | .extract .. | .makeInterface .. | .makeFunc .. | .field .. | .index .. | .slice .. | .indexAddr .. | .nilCheck _ | .binOp .. => .pure
  | .fieldAddr s _ f => if fieldSized P s f then .pure else .eff
  | .convert _ dst _ => if intType P dst then .pure else .eff
  | .call c => match c.callee, c.args.size with
    | .builtin .len, 1 | .builtin .cap, 1 => .pure
    | _, _ => .eff
  | .load .. => .load
  | .alloc _ | .box .. | .buildSlice .. => .alloc
  | _ => .eff

/-- The values with which an operation is pure indeed. -/
def valsOk (o : Oper) (ev : Operand → Value) : Bool :=
  match o.op with
  | .binOp _ _ x y _ => match ev x, ev y with
    | .int .., .int .. | .string _, .string _ | .bool _, .bool _ => true
    | _, _ => false
  | .nilCheck x => match ev x with | .pointer _ => true | _ => false
  | .convert _ _ x => match ev x with | .int .. => true | _ => false
  | .call c => match c.callee, c.args[0]? with
    | .builtin .len, some x => match ev x with | .slice .. | .string _ => true | _ => false
    | .builtin .cap, some x => match ev x with | .slice .. => true | _ => false
    | _, _ => true
  | _ => true

theorem blind_v {P : Program} {s : Sem Value} (h : Blind P s) : Blind P (do pure (Next.value (← s))) := blind_bind h fun _ => blind_pure _

theorem blind_eqGuard_int {P : Program} (op : BinOp) (t : TypeId) (x y : Operand) (k k' : IntKind) (a b : Int) : Blind P (eqGuard op t x y (.int k a) (.int k' b)) := by
  unfold eqGuard; cases op <;> exact blind_pure _
theorem blind_eqGuard_str {P : Program} (op : BinOp) (t : TypeId) (x y : Operand) (a b : ByteArray) : Blind P (eqGuard op t x y (.string a) (.string b)) := by
  unfold eqGuard; cases op <;> exact blind_pure _
theorem blind_eqGuard_bool {P : Program} (op : BinOp) (t : TypeId) (x y : Operand) (a b : Bool) : Blind P (eqGuard op t x y (.bool a) (.bool b)) := by
  unfold eqGuard; cases op <;> exact blind_pure _

theorem blind_pureOp {P : Program} {o : Oper} {ev : Operand → Value} (hc : clsOf P o = .pure) (hv : valsOk o ev = true) : Blind P (execOp ev o) := by
  obtain ⟨dst, op, type, pos, after, guard⟩ := o
  cases op <;> simp only [clsOf] at hc <;> first | (cases hc; done) | skip
  case move => exact blind_pure _
  case assign => exact blind_pure _
  case pick c a b => exact blind_bind (blind_asBool _) fun _ => blind_pure _
  case build t ps => exact blind_v (blind_build _ _)
  case nilCheck x =>
    simp only [valsOk] at hv
    simp only [execOp]
    cases h : ev x <;> simp only [h] at hv <;> first | (cases hv; done) | skip
    rename_i p
    cases p with
    | none => exact blind_runtimePanic _
    | some a => exact blind_pure _
  case binOp op t x y yt =>
    simp only [valsOk] at hv
    simp only [execOp]
    cases hx : ev x <;> cases hy : ev y <;> simp only [hx, hy] at hv <;> first | (cases hv; done) | skip
    · exact blind_v (blind_bind (blind_eqGuard_bool _ _ _ _ _ _) fun _ => blind_binOp_bool _ _ _ _)
    · exact blind_v (blind_bind (blind_eqGuard_int _ _ _ _ _ _ _ _) fun _ => blind_binOp_int _ _ _ _ _ _)
    · exact blind_v (blind_bind (blind_eqGuard_str _ _ _ _ _ _) fun _ => blind_binOp_string _ _ _ _)
  case unOp => exact blind_v (blind_unary _ _)
  case convert src dst x =>
    simp only [valsOk] at hv
    simp only [execOp]
    cases hx : ev x <;> simp only [hx] at hv <;> first | (cases hv; done) | skip
    have hi : intType P dst = true := by
      cases h : intType P dst with
      | true => rfl
      | false => simp [h] at hc
    unfold intType at hi
    split at hi
    · rename_i k hk; exact blind_v (blind_convert_int _ _ _ _ _ hk)
    · cases hi
  case makeInterface => exact blind_v (blind_makeInterface _ _)
  case makeFunc => exact blind_v (blind_pure _)
  case slice => exact blind_v (blind_sliceAt _ _ _ _ _)
  case fieldAddr s x f =>
    refine blind_v (blind_fieldAt _ _ _ ?_)
    have hi : fieldSized P s f = true := by
      cases h : fieldSized P s f with
      | true => rfl
      | false => simp [h] at hc
    intro fs hfs x hx i hi2
    simp only [fieldSized, hfs, hx, hi2] at hi
    simpa using hi
  case field => exact blind_v (blind_field _ _ _)
  case indexAddr => exact blind_v (blind_indexAt _ _ _)
  case index => exact blind_v (blind_index _ _ _)
  case extract => exact blind_v (blind_extract _ _)
  case call c =>
    obtain ⟨callee, args, ats⟩ := c
    simp only [valsOk] at hv
    have hsz : args.size = 1 ∧ (callee = .builtin .len ∨ callee = .builtin .cap) := by
      split at hc
      · rename_i h1 h2; exact ⟨h2, .inl h1⟩
      · rename_i h1 h2; exact ⟨h2, .inr h1⟩
      · cases hc
    obtain ⟨hsz, hcal⟩ := hsz
    obtain ⟨x, rfl⟩ : ∃ x, args = #[x] := Array.size_eq_one_iff.1 hsz
    rcases hcal with rfl | rfl
    · have he : ∀ w, (execOp ev { dst := dst, op := .call { callee := .builtin .len, args := #[x], argTypes := ats }, type := type, pos := pos, after := after, guard := guard }).run P w = ((do pure (Next.value (← Builtin.len_ ats type #[ev x])) : Sem Next)).run P w := fun w => by simp only [execOp, resolve, List.map_toArray, List.map_cons, List.map_nil]; rfl
      simp only [List.getElem?_toArray, List.getElem?_cons_zero] at hv
      have hb : Blind P (do pure (Next.value (← Builtin.len_ ats type #[ev x]))) := by
        cases hx : ev x <;> simp only [hx] at hv <;> first | (cases hv; done) | skip
        · exact blind_v (blind_len_str _ _ _)
        · exact blind_v (blind_len _ _ _ _ _)
      rcases hb with ⟨y, hy⟩ | hn
      · exact .inl ⟨y, fun w => (he w).trans (hy w)⟩
      · exact .inr fun w y w' h => hn w y w' ((he w).symm.trans h)
    · have he : ∀ w, (execOp ev { dst := dst, op := .call { callee := .builtin .cap, args := #[x], argTypes := ats }, type := type, pos := pos, after := after, guard := guard }).run P w = ((do pure (Next.value (← Builtin.cap_ ats type #[ev x])) : Sem Next)).run P w := fun w => by simp only [execOp, resolve, List.map_toArray, List.map_cons, List.map_nil]; rfl
      simp only [List.getElem?_toArray, List.getElem?_cons_zero] at hv
      have hb : Blind P (do pure (Next.value (← Builtin.cap_ ats type #[ev x]))) := by
        cases hx : ev x <;> simp only [hx] at hv <;> first | (cases hv; done) | skip
        exact blind_v (blind_cap _ _ _ _ _)
      rcases hb with ⟨y, hy⟩ | hn
      · exact .inl ⟨y, fun w => (he w).trans (hy w)⟩
      · exact .inr fun w y w' h => hn w y w' ((he w).symm.trans h)

/-! ### loads -/
theorem seen_congr {p : Program} {w w2 : World} {at_ : Addr} (h : w2.heap[at_.block]? = w.heap[at_.block]?) (u : TypeId) (k : Addr) (b : Bool) : w2.seen p at_ u k b = w.seen p at_ u k b := by
  unfold World.seen
  rw [h]
theorem seen_none {p : Program} {w : World} {at_ : Addr} (h : w.heap[at_.block]? = none) (u : TypeId) (k : Addr) (b : Bool) (r) : w.seen p at_ u k b ≠ .ok r := by
  unfold World.seen
  rw [h]
  intro h2
  dsimp only at h2
  split at h2
  · cases h2
  · cases h3 : plainCell p p.depth u k.off <;> simp only [h3] at h2 <;> first | (cases h2; done) | skip
    rename_i like
    cases h4 : like.bytes? <;> simp only [h4, Option.map_none, Option.map_some] at h2 <;> first | (cases h2; done) | skip
    cases h5 : byteOfCell p p.depth u k.off <;> simp only [h5] at h2 <;> cases h2
theorem viewLoad_stable {p : Program} {w w2 : World} {at_ : Addr} (hb : Below w.heap.size w w2) (u : TypeId) (k : Addr) (b : Bool) (r) (h : w.viewLoad p at_ u k b = .ok r) : w2.viewLoad p at_ u k b = .ok r := by
  by_cases hlt : at_.block < w.heap.size
  · unfold World.viewLoad at h ⊢
    rw [seen_congr (hb.block _ hlt)]
    exact h
  · have hn : w.heap[at_.block]? = none := Array.getElem?_eq_none (by omega)
    unfold World.viewLoad at h
    cases hs : w.seen p at_ u k b with
    | ok x => exact absurd hs (seen_none hn _ _ _ _)
    | error e => simp only [hs, bind, Except.bind] at h; cases h

/-- What it reads is read alike where only new blocks have come. -/
def Stable (P : Program) {α : Type} (e : Sem α) : Prop := ∀ w x w', e.run P w = .ok x w' → w' = w ∧ ∀ w2, Below w.heap.size w w2 → e.run P w2 = .ok x w2
/-- It makes new blocks alone. -/
def Makes (P : Program) {α : Type} (e : Sem α) : Prop := ∀ w x w', e.run P w = .ok x w' → Below w.heap.size w w'
section
variable {P : Program} {α β : Type}
theorem Stable.of_blind {e : Sem α} (h : Blind P e) : Stable P e := fun w x w' hr => by
  rcases h with ⟨y, hy⟩ | hn
  · have := hy w
    rw [hr] at this
    cases this
    exact ⟨rfl, fun w2 _ => hy w2⟩
  · exact absurd hr (hn _ _ _)
theorem Stable.bind {e : Sem α} {f : α → Sem β} (h : Stable P e) (hf : ∀ x, Stable P (f x)) : Stable P (e >>= f) := fun w y w' hr => by
  rw [Sem.run_bind] at hr
  cases he : e.run P w with
  | halt h w1 => rw [he] at hr; simp at hr
  | ok x w1 =>
    rw [he] at hr
    simp only [Result.andThen_ok] at hr
    obtain ⟨rfl, h1⟩ := h _ _ _ he
    obtain ⟨rfl, h2⟩ := hf x _ _ _ hr
    exact ⟨rfl, fun w2 hb => by rw [Sem.run_bind, h1 w2 hb]; exact h2 w2 hb⟩
theorem Makes.of_blind {e : Sem α} (h : Blind P e) : Makes P e := fun w x w' hr => by
  rcases h with ⟨y, hy⟩ | hn
  · have := hy w
    rw [hr] at this
    cases this
    exact Below.refl _ _
  · exact absurd hr (hn _ _ _)
theorem Makes.bind {e : Sem α} {f : α → Sem β} (h : Makes P e) (hf : ∀ x, Makes P (f x)) : Makes P (e >>= f) := fun w y w' hr => by
  rw [Sem.run_bind] at hr
  cases he : e.run P w with
  | halt h w1 => rw [he] at hr; simp at hr
  | ok x w1 =>
    rw [he] at hr
    simp only [Result.andThen_ok] at hr
    have b1 := h _ _ _ he
    exact b1.trans ((hf x _ _ _ hr).mono b1.size)
theorem stable_load (a : Addr) (m : Mode) : Stable P (load a m) := fun w x w' hr => by
  rw [run_load] at hr
  cases hc : w.cell? a with
  | some v =>
    rw [hc] at hr
    cases hr
    refine ⟨rfl, fun w2 hb => ?_⟩
    rw [run_load, hb.cell (World.block_lt_of_cell? w a hc), hc]
  | none =>
    rw [hc] at hr
    dsimp only at hr
    unfold World.farLoad at hr
    cases hh : w.heap[a.block]? with
    | none => rw [hh] at hr; simp at hr
    | some o =>
      have hlt : a.block < w.heap.size := (Array.getElem?_eq_some_iff.1 hh).1
      cases o with
      | view at_ u =>
        rw [hh] at hr
        dsimp only at hr
        cases hv : w.viewLoad P at_ u a (m == .atomic) with
        | error e => rw [hv] at hr; simp at hr
        | ok r =>
          rw [hv] at hr
          obtain ⟨v, l⟩ := r
          simp only [Result.ok.injEq] at hr
          obtain ⟨rfl, rfl⟩ := hr
          refine ⟨rfl, fun w2 hb => ?_⟩
          rw [run_load, hb.cell hlt, hc]
          dsimp only
          unfold World.farLoad
          rw [hb.block _ hlt, hh]
          dsimp only
          rw [viewLoad_stable hb _ _ _ _ hv]
      | _ => rw [hh] at hr; simp at hr
theorem stable_loadCellsFrom (a : Addr) : ∀ (n i : Nat) (acc : Array Value), Stable P (loadCellsFrom a i n acc)
  | 0, _, _ => Stable.of_blind (blind_pure _)
  | n + 1, i, acc => by
    unfold loadCellsFrom
    exact Stable.bind (stable_load _ _) fun v => stable_loadCellsFrom a n (i + 1) _
theorem stable_loadVar (t : TypeId) (a : Addr) : Stable P (loadVar t a) := by
  unfold loadVar
  refine Stable.bind (Stable.of_blind (blind_isAgg t)) fun b => ?_
  split
  · exact Stable.bind (Stable.of_blind (blind_sizeOf t)) fun n => Stable.bind (stable_loadCellsFrom _ _ _ _) fun _ => Stable.of_blind (blind_pure _)
  · exact stable_load _ _
theorem stable_loadAt (t : TypeId) (v : Value) : Stable P (Instr.loadAt t v) := by
  unfold Instr.loadAt
  exact Stable.bind (Stable.of_blind (blind_sureAddr v)) fun a => stable_loadVar t a
theorem makes_newRow (t : TypeId) (cs : Array Value) : Makes P (newRow t cs) := by
  unfold newRow
  refine Makes.bind ?_ fun _ => Makes.of_blind (blind_pure _)
  intro w x w' hr
  rw [run_newObj] at hr
  cases hr
  exact (Below.refl _ _).alloc (Nat.le_refl _) _
theorem makes_newVar (t : TypeId) (v : Value) : Makes P (newVar t v) := makes_newRow _ _
theorem makes_box (t : TypeId) (v : Value) : Makes P (Instr.box t v) := by
  unfold Instr.box
  exact Makes.bind (makes_newVar _ _) fun _ => Makes.of_blind (blind_pure _)
theorem makes_alloc (t : TypeId) : Makes P (Instr.alloc t true (.tuple #[])) := by
  unfold Instr.alloc
  exact Makes.bind (Makes.of_blind (blind_zeroValue t)) fun z => Makes.bind (makes_newVar _ _) fun _ => Makes.of_blind (blind_pure _)
theorem makes_ite (c : Prop) [Decidable c] {x y : Sem α} (hx : Makes P x) (hy : Makes P y) : Makes P (if c then x else y) := by
  split <;> assumption
theorem makes_buildSlice (t : TypeId) (n : Nat) (ps : Array (Nat × Value)) : Makes P (Instr.buildSlice t n ps) := by
  unfold Instr.buildSlice
  refine Makes.bind (Makes.of_blind (blind_underlying t)) fun d => ?_
  split
  · rename_i el
    refine Makes.bind (Makes.of_blind (blind_sizeOf _)) fun s => ?_
    have key : ∀ zero : Array Value, Makes P (do
        let some cells := Instr.fill (fun i => some (i * s, s)) ((Array.range (n * s)).map (zero[· % zero.size]!)) ps.toList
          | stuck "buildSlice: a part of the wrong size"
        pure (.slice (some (← newRow el cells)) n n) : Sem Value) := fun zero => by
      split
      · exact Makes.bind (makes_newRow _ _) fun _ => Makes.of_blind (blind_pure _)
      · exact Makes.of_blind (blind_stuck _)
    dsimp only
    split
    · exact Makes.bind (Makes.of_blind (blind_unsupported _)) fun _ => by
        split
        · exact Makes.bind (Makes.of_blind (blind_pure _)) fun z => key z
        · exact Makes.bind (Makes.of_blind (blind_zeroValue _)) fun z => Makes.bind (Makes.of_blind (blind_pure _)) fun z => key z
    · split
      · exact Makes.bind (Makes.of_blind (blind_pure _)) fun z => key z
      · exact Makes.bind (Makes.of_blind (blind_zeroValue _)) fun z => Makes.bind (Makes.of_blind (blind_pure _)) fun z => key z
  · exact Makes.of_blind (blind_stuck _)
/-- It yields a value. -/
def Yv (P : Program) (e : Sem Next) : Prop := ∀ w n w', e.run P w = .ok n w' → ∃ v, n = .value v
theorem yv_v (s : Sem Value) : Yv P (do pure (Next.value (← s))) := fun w n w' hr => by
  rw [Sem.run_bind] at hr
  cases he : s.run P w with
  | halt h w1 => rw [he] at hr; simp at hr
  | ok x w1 => rw [he] at hr; simp at hr; exact ⟨x, hr.1.symm⟩
end
theorem load_op {P : Program} {o : Oper} {ev : Operand → Value} (hc : clsOf P o = .load) : Stable P (execOp ev o) ∧ Yv P (execOp ev o) := by
  obtain ⟨dst, op, type, pos, after, guard⟩ := o
  cases op <;> simp only [clsOf] at hc <;> first | (cases hc; done) | (split at hc <;> cases hc; done) | skip
  case load t a => exact ⟨Stable.bind (stable_loadAt _ _) fun _ => Stable.of_blind (blind_pure _), yv_v _⟩
theorem alloc_op {P : Program} {o : Oper} {ev : Operand → Value} (hc : clsOf P o = .alloc) : Makes P (execOp ev o) ∧ Yv P (execOp ev o) := by
  obtain ⟨dst, op, type, pos, after, guard⟩ := o
  cases op <;> simp only [clsOf] at hc <;> first | (cases hc; done) | (split at hc <;> cases hc; done) | skip
  case alloc t => exact ⟨Makes.bind (makes_alloc _) fun _ => Makes.of_blind (blind_pure _), yv_v _⟩
  case box t x => exact ⟨Makes.bind (makes_box _ _) fun _ => Makes.of_blind (blind_pure _), yv_v _⟩
  case buildSlice t n ps => exact ⟨Makes.bind (makes_buildSlice _ _ _) fun _ => Makes.of_blind (blind_pure _), yv_v _⟩
theorem pure_yv {P : Program} {o : Oper} {ev : Operand → Value} (hc : clsOf P o = .pure) (hv : valsOk o ev = true) : ∀ w n w', (execOp ev o).run P w = .ok n w' → ∃ v, n = .value v := by
  obtain ⟨dst, op, type, pos, after, guard⟩ := o
  cases op <;> simp only [clsOf] at hc <;> first | (cases hc; done) | (exact yv_v _; done) | (exact fun w n w' h => ⟨_, by cases h; rfl⟩) | skip
  case pick c a b =>
    intro w n w' h
    simp only [execOp, Sem.run_bind] at h
    cases he : (asBool (ev c)).run P w with
    | halt h1 w1 => rw [he] at h; simp at h
    | ok x w1 => rw [he] at h; simp at h; exact ⟨_, h.1.symm⟩
  case nilCheck x =>
    intro w n w' h
    simp only [valsOk] at hv
    simp only [execOp] at h
    cases hx : ev x <;> simp only [hx] at hv h <;> first | (cases hv; done) | skip
    rename_i p
    cases p with
    | none => exact absurd h (never_runtimePanic _ _ _ _)
    | some a => cases h; exact ⟨_, rfl⟩
  case call c =>
    obtain ⟨callee, args, ats⟩ := c
    have hsz : args.size = 1 ∧ (callee = .builtin .len ∨ callee = .builtin .cap) := by
      split at hc
      · rename_i h1 h2; exact ⟨h2, .inl h1⟩
      · rename_i h1 h2; exact ⟨h2, .inr h1⟩
      · cases hc
    obtain ⟨hsz, hcal⟩ := hsz
    obtain ⟨x, rfl⟩ : ∃ x, args = #[x] := Array.size_eq_one_iff.1 hsz
    rcases hcal with rfl | rfl
    · intro w n w' h
      exact yv_v (Builtin.len_ ats type #[ev x]) w n w' (by rw [← h]; simp only [execOp, resolve, List.map_toArray, List.map_cons, List.map_nil]; rfl)
    · intro w n w' h
      exact yv_v (Builtin.cap_ ats type #[ev x]) w n w' (by rw [← h]; simp only [execOp, resolve, List.map_toArray, List.map_cons, List.map_nil]; rfl)

/-! ### the walk -/
def NoQ : Exit → Act → World → Prop := fun _ _ _ => False
theorem noQ_lets : ¬ LetsOut NoQ := fun ⟨_, _, h⟩ => h

section
variable {P : Program} {ops : Array Oper} {md : Region.Mode}

theorem wp_noQ {o : Oper} {a : Act} {w : World} {K : Act → World → Prop} {Q : Exit → Act → World → Prop} (h : o.wp P a w K NoQ) : o.wp P a w K Q := by
  unfold Oper.wp at *
  generalize (execOp a.eval o).run P w = r at *
  cases r with
  | ok n w' =>
    cases n <;> simp only [Oper.upon] at h ⊢ <;> first | exact h | skip
    exact Calls.mono h fun e w'' he => by
      cases e with
      | returned v => exact he
      | panicked c => exact he.elim
      | outgrown => exact (noQ_lets he).elim
  | halt x w' => cases x <;> simp only [Oper.upon] at h ⊢ <;> exact h.elim
theorem wp_toNoQ {o : Oper} {a : Act} {w : World} {K : Act → World → Prop} {Q : Exit → Act → World → Prop} (hp : ∀ c a w, ¬ Q (.panic c) a w) (ho : ¬ LetsOut Q) (h : o.wp P a w K Q) : o.wp P a w K NoQ := by
  unfold Oper.wp at *
  generalize (execOp a.eval o).run P w = r at *
  cases r with
  | ok n w' =>
    cases n <;> simp only [Oper.upon] at h ⊢ <;> first | exact h | skip
    exact Calls.mono h fun e w'' he => by
      cases e with
      | returned v => exact he
      | panicked c => exact (hp _ _ _ he).elim
      | outgrown => exact (ho he).elim
  | halt x w' =>
    cases x <;> simp only [Oper.upon] at h ⊢
    exact (hp _ _ _ h).elim

/-- Some outcome. -/
theorem wp_out {o : Oper} {a : Act} {w : World} {K : Act → World → Prop} (h : o.wp P a w K NoQ) : ∃ u ds w', K (({ a with defers := ds } : Act).put o.dst u) w' := by
  unfold Oper.wp at h
  generalize (execOp a.eval o).run P w = r at *
  cases r with
  | ok n w' =>
    cases n <;> simp only [Oper.upon] at h
    case value v => exact ⟨v, a.defers, w', h⟩
    case skip => exact ⟨undef, a.defers, w', h⟩
    case defer d => exact ⟨undef, d :: a.defers, w', h⟩
    case enter f args =>
      obtain ⟨e, w'', fr, hR, _⟩ := h []
      cases e with
      | returned v => exact ⟨v, a.defers, w'', hR⟩
      | panicked c => exact hR.elim
      | outgrown => exact (noQ_lets hR).elim
    case row row args =>
      obtain ⟨v, w'', hR, _⟩ := h default []
      exact ⟨v, a.defers, w'', hR⟩
  | halt x w' => cases x <;> simp only [Oper.upon] at h <;> exact h.elim

/-- The same operation in an act that it can't tell apart. -/
theorem wp_map {o : Oper} {a a' : Act} {w : World} {K K' : Act → World → Prop} (he : execOp a'.eval o = execOp a.eval o) (hd : a'.defers = a.defers)
    (hK : ∀ u ds w', K (({ a with defers := ds } : Act).put o.dst u) w' → K' (({ a' with defers := ds } : Act).put o.dst u) w') (h : o.wp P a w K NoQ) : o.wp P a' w K' NoQ := by
  unfold Oper.wp at *
  rw [he]
  have ea : ({ a with defers := a.defers } : Act) = a := rfl
  have ea' : ({ a' with defers := a.defers } : Act) = a' := by rw [← hd]
  generalize (execOp a.eval o).run P w = r at *
  cases r with
  | ok n w' =>
    cases n <;> simp only [Oper.upon] at h ⊢
    case value v => have := hK v a.defers w' h; rw [ea'] at this; exact this
    case skip => have := hK undef a.defers w' h; rw [ea'] at this; exact this
    case defer d => rw [hd]; exact hK undef (d :: a.defers) w' h
    case enter f args =>
      refine Calls.mono h fun e w'' hR => ?_
      cases e with
      | returned v => have := hK v a.defers w'' hR; rw [ea'] at this; exact this
      | panicked c => exact hR
      | outgrown => exact hR
    case row row args => exact Rows.mono h fun v w'' hR => by have := hK v a.defers w'' hR; rw [ea'] at this; exact this
  | halt x w' => cases x <;> simp only [Oper.upon] at h ⊢ <;> exact h

/-- The class at a place: ahead of place n, loads and acts are told by S. -/
def clsAt (P : Program) (n i : Nat) (o : Oper) : Cls :=
  match clsOf P o with
  | .pure => .pure
  | .load => if i < n then .sload else .load
  | .alloc => if i < n then .sact else .alloc
  | _ => if i < n then .sact else .eff

/-- One operation, with what its class promises; no way on but the normal one. -/
def stepP (P : Program) (n : Nat) (S : World → Prop) (ops : Array Oper) (i : Nat) (K : Act → World → Prop) (a : Act) (w : World) : Prop :=
  match ops[i]? with
  | none => K a w
  | some o =>
    if Region.wanted o (yielded ops a.tmps) = true then
      match clsAt P n i o with
      | .pure => ∃ v, (∀ w2, (execOp a.eval o).run P w2 = .ok (.value v) w2) ∧ K (a.put o.dst v) w
      | .load => ∃ v, (∀ w2, Below w.heap.size w w2 → (execOp a.eval o).run P w2 = .ok (.value v) w2) ∧ K (a.put o.dst v) w
      | .alloc => o.wp P a w (fun a' w' => Below w.heap.size w w' ∧ K a' w') NoQ
      | .eff => o.wp P a w K NoQ
      | .sload => S w ∧ ∃ v, (∀ w2, S w2 → (execOp a.eval o).run P w2 = .ok (.value v) w2) ∧ K (a.put o.dst v) w
      | .sact => S w ∧ o.wp P a w (fun a' w' => S w' ∧ K a' w') NoQ
    else K (a.put o.dst undef) w

section
variable {n : Nat} {S : World → Prop}
theorem wp_mono' {o : Oper} {a : Act} {w : World} {K K' : Act → World → Prop} (h : ∀ a w, K a w → K' a w) (hh : o.wp P a w K NoQ) : o.wp P a w K' NoQ := Oper.wp_mono h hh

theorem stepP_mono {i : Nat} {a : Act} {w : World} {K K' : Act → World → Prop} (h : ∀ a w, K a w → K' a w) (hh : stepP P n S ops i K a w) : stepP P n S ops i K' a w := by
  unfold stepP at *
  cases ho : ops[i]? with
  | none => simp only [ho] at hh ⊢; exact h _ _ hh
  | some o =>
    simp only [ho] at hh ⊢
    split
    · rename_i hw
      rw [if_pos hw] at hh
      cases hc : clsAt P n i o <;> simp only [hc] at hh ⊢
      · obtain ⟨v, h1, h2⟩ := hh; exact ⟨v, h1, h _ _ h2⟩
      · obtain ⟨v, h1, h2⟩ := hh; exact ⟨v, h1, h _ _ h2⟩
      · exact wp_mono' (fun a w hk => ⟨hk.1, h _ _ hk.2⟩) hh
      · exact wp_mono' h hh
      · obtain ⟨hS, v, h1, h2⟩ := hh; exact ⟨hS, v, h1, h _ _ h2⟩
      · exact ⟨hh.1, wp_mono' (fun a w hk => ⟨hk.1, h _ _ hk.2⟩) hh.2⟩
    · rename_i hw
      rw [if_neg hw] at hh
      exact h _ _ hh

theorem wpOp_of_stepP {i : Nat} {a : Act} {w : World} {K : Act → World → Prop} {Q : Exit → Act → World → Prop} (hh : stepP P n S ops i K a w) : wpOp P ops Q i K a w := by
  unfold stepP at hh
  unfold wpOp
  cases ho : ops[i]? with
  | none => simp only [ho] at hh ⊢; exact hh
  | some o =>
    simp only [ho] at hh ⊢
    split
    · rename_i hw
      rw [if_pos hw] at hh
      refine .inl ?_
      cases hc : clsAt P n i o <;> simp only [hc] at hh
      · obtain ⟨v, h1, h2⟩ := hh; unfold Oper.wp; rw [h1 w]; exact h2
      · obtain ⟨v, h1, h2⟩ := hh; unfold Oper.wp; rw [h1 w (Below.refl _ _)]; exact h2
      · exact wp_noQ (wp_mono' (fun a w hk => hk.2) hh)
      · exact wp_noQ hh
      · obtain ⟨hS, v, h1, h2⟩ := hh; unfold Oper.wp; rw [h1 w hS]; exact h2
      · exact wp_noQ (wp_mono' (fun a w hk => hk.2) hh.2)
    · rename_i hw
      rw [if_neg hw] at hh
      exact hh

theorem stepP_out {i : Nat} {a : Act} {w : World} {K : Act → World → Prop} (hh : stepP P n S ops i K a w) : ∃ a' w', K a' w' := by
  unfold stepP at hh
  cases ho : ops[i]? with
  | none => simp only [ho] at hh; exact ⟨_, _, hh⟩
  | some o =>
    simp only [ho] at hh
    split at hh
    · cases hc : clsAt P n i o <;> simp only [hc] at hh
      · obtain ⟨v, h1, h2⟩ := hh; exact ⟨_, _, h2⟩
      · obtain ⟨v, h1, h2⟩ := hh; exact ⟨_, _, h2⟩
      · obtain ⟨u, ds, w', hk⟩ := wp_out hh; exact ⟨_, _, hk.2⟩
      · obtain ⟨u, ds, w', hk⟩ := wp_out hh; exact ⟨_, _, hk⟩
      · obtain ⟨_, v, h1, h2⟩ := hh; exact ⟨_, _, h2⟩
      · obtain ⟨u, ds, w', hk⟩ := wp_out hh.2; exact ⟨_, _, hk.2⟩
    · exact ⟨_, _, hh⟩

def pairOK : Cls → Cls → Bool
  | .pure, _ => true
  | .load, .pure | .load, .load | .load, .alloc => true
  | .alloc, .pure => true
  | .eff, .pure => true
  | .sload, .pure | .sload, .sload | .sload, .sact => true
  | .sact, .pure | .sact, .sload => true
  | _, _ => false

theorem put_defers' (a : Act) (x : Option Tmp) (v : Value) (ds : List Deferred) : ({ a.put x v with defers := ds } : Act) = ({ a with defers := ds } : Act).put x v := by
  cases x <;> rfl

/-- In which worlds a quiet operation yields what it yielded. -/
def Cond (S : World → Prop) (w : World) : Cls → World → Prop
  | .pure, _ => True
  | .load, w2 => Below w.heap.size w w2
  | .sload, w2 => S w2
  | _, _ => False

/-- Two that may come up in either order. -/
theorem stepP_swap {k j : Nat} {ok oj : Oper} (hk : ops[k]? = some ok) (hj : ops[j]? = some oj) (hap : ok.apart ops oj = true)
    (hsk : ∀ cs b, ok.op ≠ .select cs b) (hsj : ∀ cs b, oj.op ≠ .select cs b) (hpair : pairOK (clsAt P n k ok) (clsAt P n j oj) = true)
    {K : Act → World → Prop} {a : Act} {w : World} (h : stepP P n S ops k (fun a1 w1 => stepP P n S ops j K a1 w1) a w) :
    stepP P n S ops j (fun a2 w2 => stepP P n S ops k K a2 w2) a w := by
  obtain ⟨h1, h2, h3⟩ := Oper.apart_spec hap
  have ek : ∀ (a : Act) u, execOp (a.put oj.dst u).eval ok = execOp a.eval ok := fun a u => execOp_put ok hsk a oj.dst u h3
  have wk : ∀ (a : Act) u, Region.wanted ok (yielded ops (a.put oj.dst u).tmps) = Region.wanted ok (yielded ops a.tmps) := fun a u => wanted_put ok a oj.dst u h3
  have ej : ∀ (a : Act) u, execOp (a.put ok.dst u).eval oj = execOp a.eval oj := fun a u => execOp_put oj hsj a ok.dst u h1
  have wj : ∀ (a : Act) u, Region.wanted oj (yielded ops (a.put ok.dst u).tmps) = Region.wanted oj (yielded ops a.tmps) := fun a u => wanted_put oj a ok.dst u h1
  have cm : ∀ (a : Act) v u, (a.put ok.dst v).put oj.dst u = (a.put oj.dst u).put ok.dst v := fun a v u => Act.put_comm a v u h2
  by_cases hwk : Region.wanted ok (yielded ops a.tmps) = true
  · by_cases hq : clsAt P n k ok = .pure ∨ clsAt P n k ok = .load ∨ clsAt P n k ok = .sload
    · -- k yields v here, and wherever j leads
      have hkq : ∃ v, (∀ w2, Cond S w (clsAt P n k ok) w2 → (execOp a.eval ok).run P w2 = .ok (.value v) w2) ∧ Cond S w (clsAt P n k ok) w ∧ stepP P n S ops j K (a.put ok.dst v) w := by
        unfold stepP at h
        simp only [hk, hwk, if_true] at h
        rcases hq with hc | hc | hc <;> simp only [hc] at h ⊢
        · obtain ⟨v, hv, hs⟩ := h
          exact ⟨v, fun w2 _ => hv w2, trivial, by unfold stepP; exact hs⟩
        · obtain ⟨v, hv, hs⟩ := h
          exact ⟨v, hv, Below.refl _ _, by unfold stepP; exact hs⟩
        · obtain ⟨hS, v, hv, hs⟩ := h
          exact ⟨v, hv, hS, by unfold stepP; exact hs⟩
      obtain ⟨v, hv, hcw, hs⟩ := hkq
      -- from k's side: once j has been
      have back : ∀ (a2 : Act) (w2 : World), Cond S w (clsAt P n k ok) w2 → execOp a2.eval ok = execOp a.eval ok →
          Region.wanted ok (yielded ops a2.tmps) = Region.wanted ok (yielded ops a.tmps) → K (a2.put ok.dst v) w2 → stepP P n S ops k K a2 w2 := fun a2 w2 hb he hwe hK => by
        unfold stepP
        simp only [hk, hwe, hwk, if_true]
        rcases hq with hc | hc | hc <;> simp only [hc] at hb hv ⊢
        · exact ⟨v, fun w3 => by rw [he]; exact hv w3 trivial, hK⟩
        · exact ⟨v, fun w3 hb3 => by rw [he]; exact hv w3 (Below.trans hb (hb3.mono hb.size)), hK⟩
        · exact ⟨hb, v, fun w3 hb3 => by rw [he]; exact hv w3 hb3, hK⟩
      unfold stepP at hs ⊢
      simp only [hj, wj] at hs ⊢
      by_cases hwj : Region.wanted oj (yielded ops a.tmps) = true
      · rw [if_pos hwj] at hs ⊢
        cases hc : clsAt P n j oj <;> simp only [hc] at hs ⊢
        · obtain ⟨u, hu, hK⟩ := hs
          exact ⟨u, fun w2 => by rw [← ej a v]; exact hu w2, back _ _ hcw (ek a u) (wk a u) (by rw [← cm]; exact hK)⟩
        · obtain ⟨u, hu, hK⟩ := hs
          exact ⟨u, fun w2 hb => by rw [← ej a v]; exact hu w2 hb, back _ _ hcw (ek a u) (wk a u) (by rw [← cm]; exact hK)⟩
        · have hne : clsAt P n k ok ≠ .sload := fun hh => by rw [hh, hc] at hpair; simp [pairOK] at hpair
          refine wp_map (ej a v).symm (by cases ok.dst <;> rfl) (fun u ds w' hh => ⟨hh.1, back _ _ ?_ ?_ ?_ ?_⟩) hs
          · rcases hq with hq | hq | hq
            · rw [hq]; trivial
            · rw [hq]; exact hh.1
            · exact absurd hq hne
          · rw [ek]; rfl
          · rw [wk]
          · have := hh.2; rw [put_defers', cm] at this; exact this
        · have hp : clsAt P n k ok = .pure := by
            rcases hq with hh | hh | hh
            · exact hh
            · rw [hh, hc] at hpair; simp [pairOK] at hpair
            · rw [hh, hc] at hpair; simp [pairOK] at hpair
          refine wp_map (ej a v).symm (by cases ok.dst <;> rfl) (fun u ds w' hh => back _ _ (by rw [hp]; trivial) ?_ ?_ ?_) hs
          · rw [ek]; rfl
          · rw [wk]
          · rw [put_defers', cm] at hh; exact hh
        · obtain ⟨hS, u, hu, hK⟩ := hs
          exact ⟨hS, u, fun w2 hb => by rw [← ej a v]; exact hu w2 hb, back _ _ hcw (ek a u) (wk a u) (by rw [← cm]; exact hK)⟩
        · refine ⟨hs.1, wp_map (ej a v).symm (by cases ok.dst <;> rfl) (fun u ds w' hh => ⟨hh.1, back _ _ ?_ ?_ ?_ ?_⟩) hs.2⟩
          · rcases hq with hq | hq | hq
            · rw [hq]; trivial
            · rw [hq, hc] at hpair; simp [pairOK] at hpair
            · rw [hq]; exact hh.1
          · rw [ek]; rfl
          · rw [wk]
          · have := hh.2; rw [put_defers', cm] at this; exact this
      · rw [if_neg hwj] at hs ⊢
        exact back _ _ hcw (ek a undef) (wk a undef) (by rw [← cm]; exact hs)
    · -- k acts
      have hcj : clsAt P n j oj = .pure ∨ clsAt P n k ok = .sact ∧ clsAt P n j oj = .sload := by
        cases hc : clsAt P n k ok <;> cases hc2 : clsAt P n j oj <;> simp_all [pairOK]
      -- whatever k promises of the world
      obtain ⟨B, A, hA, hB, hsl, fold⟩ : ∃ (B : World → Prop) (A : Prop), A ∧ ok.wp P a w (fun a1 w1 => B w1 ∧ stepP P n S ops j K a1 w1) NoQ ∧ (clsAt P n k ok = .sact → S w ∧ ∀ w1, B w1 → S w1) ∧
          ∀ (a2 : Act) (K' : Act → World → Prop), A → Region.wanted ok (yielded ops a2.tmps) = true → ok.wp P a2 w (fun a1 w1 => B w1 ∧ K' a1 w1) NoQ → stepP P n S ops k K' a2 w := by
        unfold stepP at h
        simp only [hk, hwk, if_true] at h
        cases hc : clsAt P n k ok
        · exact absurd (.inl hc) hq
        · exact absurd (.inr (.inl hc)) hq
        · simp only [hc] at h
          exact ⟨fun w1 => Below w.heap.size w w1, True, trivial, h, fun e => (by cases e), fun a2 K' _ hw2 hh => by unfold stepP; simp only [hk, hw2, if_true, hc]; exact hh⟩
        · simp only [hc] at h
          exact ⟨fun _ => True, True, trivial, wp_mono' (fun _ _ hh => ⟨trivial, hh⟩) h, fun e => (by cases e), fun a2 K' _ hw2 hh => by unfold stepP; simp only [hk, hw2, if_true, hc]; exact wp_mono' (fun _ _ hh => hh.2) hh⟩
        · exact absurd (.inr (.inr hc)) hq
        · simp only [hc] at h
          exact ⟨S, S w, h.1, h.2, fun _ => ⟨h.1, fun _ hb => hb⟩, fun a2 K' hS hw2 hh => by unfold stepP; simp only [hk, hw2, if_true, hc]; exact ⟨hS, hh⟩⟩
      have wjd : ∀ u ds, Region.wanted oj (yielded ops (({ a with defers := ds } : Act).put ok.dst u).tmps) = Region.wanted oj (yielded ops a.tmps) := fun u ds => by rw [wj]
      have ejd : ∀ u ds, execOp (({ a with defers := ds } : Act).put ok.dst u).eval oj = execOp a.eval oj := fun u ds => by rw [ej]; rfl
      by_cases hwj : Region.wanted oj (yielded ops a.tmps) = true
      · obtain ⟨u0, ds0, w0, _, hs0⟩ := wp_out hB
        unfold stepP at hs0
        simp only [hj, wjd, hwj, if_true, ejd] at hs0
        show stepP P n S ops j (fun a2 w2 => stepP P n S ops k K a2 w2) a w
        unfold stepP
        simp only [hj, hwj, if_true]
        rcases hcj with hcj | ⟨hck, hcj⟩
        · simp only [hcj] at hs0 ⊢
          obtain ⟨v, hv, _⟩ := hs0
          refine ⟨v, hv, ?_⟩
          have := fold (a.put oj.dst v) K hA (by rw [wk]; exact hwk) (wp_map (ek a v) (by cases oj.dst <;> rfl) (fun u ds w' hh => ⟨hh.1, ?_⟩) hB)
          · unfold stepP at this; exact this
          · have hs := hh.2
            unfold stepP at hs
            simp only [hj, wjd, hwj, if_true, hcj, ejd] at hs
            obtain ⟨v', hv', hK⟩ := hs
            have hvv : v' = v := by
              have e1 := hv w
              rw [hv' w] at e1
              simpa using e1
            subst hvv
            rw [put_defers', ← cm]
            exact hK
        · simp only [hcj] at hs0 ⊢
          obtain ⟨hS0, v, hv, _⟩ := hs0
          have hSw := (hsl hck).1
          refine ⟨hSw, v, hv, ?_⟩
          have := fold (a.put oj.dst v) K hA (by rw [wk]; exact hwk) (wp_map (ek a v) (by cases oj.dst <;> rfl) (fun u ds w' hh => ⟨hh.1, ?_⟩) hB)
          · unfold stepP at this; exact this
          · have hs := hh.2
            unfold stepP at hs
            simp only [hj, wjd, hwj, if_true, hcj, ejd] at hs
            obtain ⟨_, v', hv', hK⟩ := hs
            have hvv : v' = v := by
              have e1 := hv w hSw
              rw [hv' w hSw] at e1
              simpa using e1
            subst hvv
            rw [put_defers', ← cm]
            exact hK
      · show stepP P n S ops j (fun a2 w2 => stepP P n S ops k K a2 w2) a w
        unfold stepP
        simp only [hj]
        rw [if_neg hwj]
        have := fold (a.put oj.dst undef) K hA (by rw [wk]; exact hwk) (wp_map (ek a undef) (by cases oj.dst <;> rfl) (fun u ds w' hh => ⟨hh.1, ?_⟩) hB)
        · unfold stepP at this; exact this
        · have hs := hh.2
          unfold stepP at hs
          simp only [hj, wjd] at hs
          rw [if_neg hwj] at hs
          rw [put_defers', ← cm]
          exact hs
  · -- k is not wanted
    have hs : stepP P n S ops j K (a.put ok.dst undef) w := by
      unfold stepP at h
      simp only [hk] at h
      rw [if_neg hwk] at h
      unfold stepP
      exact h
    have back : ∀ (a2 : Act) (w2 : World), Region.wanted ok (yielded ops a2.tmps) = Region.wanted ok (yielded ops a.tmps) → K (a2.put ok.dst undef) w2 → stepP P n S ops k K a2 w2 := fun a2 w2 hwe hK => by
      unfold stepP
      simp only [hk, hwe]
      rw [if_neg hwk]
      exact hK
    unfold stepP at hs ⊢
    simp only [hj, wj] at hs ⊢
    by_cases hwj : Region.wanted oj (yielded ops a.tmps) = true
    · rw [if_pos hwj] at hs ⊢
      cases hc : clsAt P n j oj <;> simp only [hc] at hs ⊢
      · obtain ⟨u, hu, hK⟩ := hs
        exact ⟨u, fun w2 => by rw [← ej a undef]; exact hu w2, back _ _ (wk a u) (by rw [← cm]; exact hK)⟩
      · obtain ⟨u, hu, hK⟩ := hs
        exact ⟨u, fun w2 hb => by rw [← ej a undef]; exact hu w2 hb, back _ _ (wk a u) (by rw [← cm]; exact hK)⟩
      · refine wp_map (ej a undef).symm (by cases ok.dst <;> rfl) (fun u ds w' hh => ⟨hh.1, back _ _ ?_ ?_⟩) hs
        · rw [wk]
        · have := hh.2; rw [put_defers', cm] at this; exact this
      · refine wp_map (ej a undef).symm (by cases ok.dst <;> rfl) (fun u ds w' hh => back _ _ ?_ ?_) hs
        · rw [wk]
        · rw [put_defers', cm] at hh; exact hh
      · obtain ⟨hS, u, hu, hK⟩ := hs
        exact ⟨hS, u, fun w2 hb => by rw [← ej a undef]; exact hu w2 hb, back _ _ (wk a u) (by rw [← cm]; exact hK)⟩
      · refine ⟨hs.1, wp_map (ej a undef).symm (by cases ok.dst <;> rfl) (fun u ds w' hh => ⟨hh.1, back _ _ ?_ ?_⟩) hs.2⟩
        · rw [wk]
        · have := hh.2; rw [put_defers', cm] at this; exact this
    · rw [if_neg hwj] at hs ⊢
      exact back _ _ (wk a undef) (by rw [← cm]; exact hs)

/-- Whatever order. -/
def wpAnyP (P : Program) (n : Nat) (S : World → Prop) (md : Region.Mode) (ops : Array Oper) (Q : Act → World → Prop) : Nat → Array Bool → Act → World → Prop
  | 0, listed, a, w => Region.ready md ops listed = [] ∧ Q a w
  | fuel + 1, listed, a, w => (Region.ready md ops listed = [] → Q a w) ∧ ∀ i ∈ Region.ready md ops listed, stepP P n S ops i (wpAnyP P n S md ops Q fuel (listed.setIfInBounds i true)) a w

theorem wpAny_of_P {Q : Act → World → Prop} {Q' : Exit → Act → World → Prop} (hQ : ∀ a w, Q a w → Q' .normal a w) : ∀ (fuel : Nat) (listed : Array Bool) (a : Act) (w : World), wpAnyP P n S md ops Q fuel listed a w → wpAny P md ops Q' fuel listed a w
  | 0, _, _, _, h => ⟨h.1, hQ _ _ h.2⟩
  | fuel + 1, _, _, _, h => ⟨fun h0 => hQ _ _ (h.1 h0), fun i hi => wpOp_of_stepP (stepP_mono (fun a' w' h' => wpAny_of_P hQ fuel _ a' w' h') (h.2 i hi))⟩

inductive Waits (md : Region.Mode) (ops : Array Oper) : Nat → Nat → Prop
  | one {j : Nat} {o : Oper} {e : Edge} (hj : ops[j]? = some o) (he : e ∈ o.after) (hb : Region.binds md e = true) : Waits md ops j e.on
  | more {j k : Nat} {o : Oper} {e : Edge} (hj : ops[j]? = some o) (he : e ∈ o.after) (hb : Region.binds md e = true) (h : Waits md ops e.on k) : Waits md ops j k

def Closed (md : Region.Mode) (ops : Array Oper) (listed : Array Bool) : Prop := ∀ j o, ops[j]? = some o → listed.getD j false = true → ∀ e ∈ o.after, Region.binds md e = true → listed.getD e.on false = true

theorem Closed.waits {listed : Array Bool} (hc : Closed md ops listed) {j k : Nat} (h : Waits md ops j k) : listed.getD j false = true → listed.getD k false = true := by
  induction h with
  | one hj he hb => exact fun hl => hc _ _ hj hl _ he hb
  | more hj he hb _ ih => exact fun hl => ih (hc _ _ hj hl _ he hb)

theorem Closed.ready {listed : Array Bool} (hc : Closed md ops listed) {j k : Nat} (hr : j ∈ Region.ready md ops listed) (h : Waits md ops j k) : listed.getD k false = true := by
  obtain ⟨_, o, ho, hall⟩ := mem_ready.1 hr
  cases h with
  | one hj he hb => rw [ho] at hj; cases hj; exact hall _ he hb
  | more hj he hb h2 => rw [ho] at hj; cases hj; exact hc.waits h2 (hall _ he hb)

theorem Closed.set {listed : Array Bool} (hc : Closed md ops listed) {i : Nat} (hr : i ∈ Region.ready md ops listed) : Closed md ops (listed.setIfInBounds i true) := by
  obtain ⟨_, oi, hoi, hall⟩ := mem_ready.1 hr
  intro j o hj hl e he hb
  by_cases hij : i = j
  · subst hij
    rw [hoi] at hj
    cases hj
    exact getD_set_true (hall e he hb)
  · rw [getD_set_ne false hij] at hl
    exact getD_set_true (hc j o hj hl e he hb)

theorem wpAnyP_first {Q : Act → World → Prop} {k : Nat} {ok : Oper} (hk : ops[k]? = some ok) (hsel : ∀ (j : Nat) (o : Oper) cs b, ops[j]? = some o → o.op ≠ .select cs b) :
    ∀ (fuel : Nat) (listed : Array Bool) (a : Act) (w : World), Closed md ops listed →
      (∀ j oj, ops[j]? = some oj → j ≠ k → listed.getD j true = false → ¬ Waits md ops j k → ok.apart ops oj = true ∧ pairOK (clsAt P n k ok) (clsAt P n j oj) = true) →
      k ∈ Region.ready md ops listed → stepP P n S ops k (wpAnyP P n S md ops Q fuel (listed.setIfInBounds k true)) a w → wpAnyP P n S md ops Q (fuel + 1) listed a w := by
  intro fuel
  induction fuel with
  | zero =>
    intro listed a w hcl _ hr H
    refine ⟨fun h => (by rw [h] at hr; cases hr), fun j hj => ?_⟩
    by_cases hjk : j = k
    · subst hjk; exact H
    · obtain ⟨_, _, h0, _⟩ := stepP_out H
      have := ready_mono hj hjk
      rw [h0] at this
      cases this
  | succ fuel ih =>
    intro listed a w hcl hfree hr H
    refine ⟨fun h => (by rw [h] at hr; cases hr), fun j hj => ?_⟩
    by_cases hjk : j = k
    · subst hjk; exact H
    · obtain ⟨hjun, oj, hoj, _⟩ := mem_ready.1 hj
      have hnw : ¬ Waits md ops j k := fun hw => by
        have h1 := hcl.ready hj hw
        have h0 := (mem_ready.1 hr).1
        rcases Nat.lt_or_ge k listed.size with h' | h'
        · simp [h'] at h0 h1; rw [h0] at h1; cases h1
        · simp [Array.getElem?_eq_none h'] at h1
      obtain ⟨hap, hpo⟩ := hfree j oj hoj hjk hjun hnw
      have H1 : stepP P n S ops k (fun a1 w1 => stepP P n S ops j (wpAnyP P n S md ops Q fuel ((listed.setIfInBounds k true).setIfInBounds j true)) a1 w1) a w :=
        stepP_mono (fun a1 w1 h1 => h1.2 j (ready_mono hj hjk)) H
      have H2 := stepP_swap hk hoj hap (fun cs b => hsel k ok cs b hk) (fun cs b => hsel j oj cs b hoj) hpo H1
      refine stepP_mono (fun a2 w2 h2 => ih (listed.setIfInBounds j true) a2 w2 (hcl.set hj) ?_ (ready_mono hr (Ne.symm hjk)) ?_) H2
      · intro i oi hi hik hun hnw2
        refine hfree i oi hi hik ?_ hnw2
        by_cases hji : j = i
        · subst hji; exact hjun
        · rw [getD_set_ne true hji] at hun; exact hun
      · rw [Array.setIfInBounds_comm _ _ hjk]
        exact h2
end

end
/-! ### the look at a region's edges -/
def maskOf (md : Region.Mode) (acc : Array Nat) (o : Oper) : Nat := o.after.toList.foldr (fun e s => if Region.binds md e then s ||| 2 ^ e.on ||| acc.getD e.on 0 else s) 0
def masks (md : Region.Mode) : List Oper → Array Nat → Array Nat
  | [], acc => acc
  | o :: l, acc => masks md l (acc.push (maskOf md acc o))
def pairB (P : Program) (n : Nat) (l : List Oper) (ms : Array Nat) (k j : Nat) : Bool :=
  (ms.getD j 0).testBit k || match l[k]?, l[j]? with
    | some ok, some oj => ok.apart l.toArray oj && pairOK (clsAt P n k ok) (clsAt P n j oj)
    | _, _ => true
def lexB (P : Program) (n : Nat) (l : List Oper) (ms : Array Nat) : Nat → Nat → Array Bool → Bool
  | 0, _, listed => (Region.ready .any l.toArray listed).isEmpty
  | f + 1, k, listed => (Region.ready .any l.toArray listed).contains k && ((List.range' (k + 1) f).all fun j => pairB P n l ms k j) && lexB P n l ms f (k + 1) (listed.setIfInBounds k true)
/-- Operands that are looked at behind the walk stand still from their operation on. -/
def looked (o : Oper) : Bool := match o.op with | .binOp .. | .nilCheck _ | .convert .. | .call _ => true | _ => false
def isLoad (o : Oper) : Bool := match o.op with | .load .. => true | _ => false
def stillB (n : Nat) (l : List Oper) : Nat → Bool
  | k => match l[k]? with
    | none => true
    | some o => !(looked o || isLoad o && decide (k < n)) || (l.drop k).all fun o2 => match o2.dst with | some d => !(o.looksAt l.toArray).contains d | none => true
def rtB (P : Program) (n : Nat) (l : List Oper) : Bool := Region.noSelect l.toArray && lexB P n l (masks .any l #[]) l.length 0 (Array.replicate l.length false) && (List.range l.length).all (stillB n l)
/-- .. and where loads are told by S: which these are; where the walk stops to show S. -/
def cutsB (P : Program) (n : Nat) : List Oper → Nat → List Nat → Bool
  | [], _, _ => true
  | o :: l, k, ms => (decide (n ≤ k) || !(clsOf P o == Cls.eff) || ms.head? == some 1) && match ms with
    | [] => cutsB P n l (k + 1) []
    | m :: ms => decide (0 < m) && cutsB P n l (k + 1) (if m = 1 then ms else (m - 1) :: ms)
def rtB2 (P : Program) (n : Nat) (l : List Oper) (ms js : List Nat) : Bool :=
  rtB P n l && cutsB P n l 0 ms && (List.range (min n l.length)).all fun k => match l[k]? with | some o => !isLoad o || js.contains k | none => true
/-- The look at the operands' values, behind the walk. -/
def rtV (l : List Oper) (a : Act) : Bool := l.all fun o => !looked o || !(Region.wanted o (yielded l.toArray a.tmps)) || valsOk o a.eval
/-- What is to be shown behind the walk. -/
def Post (l : List Oper) (Q : Exit → Act → World → Prop) (e : Exit) (a : Act) (w : World) : Prop := e = .normal ∧ rtV l a = true ∧ Q .normal a w
/-- What is to be shown of the loads js: in every world that meets S they yield what they yielded. -/
def lates (P : Program) (S : World → Prop) (l : List Oper) (a : Act) : List Nat → Prop
  | [] => True
  | j :: js => (match l[j]? with
    | some o => Region.wanted o (yielded l.toArray a.tmps) = true → ∀ w2, S w2 → (execOp a.eval o).run P w2 = .ok (.value (a.eval (.tmp (o.dst.getD 0)))) w2
    | none => True) ∧ lates P S l a js
def Post2 (P : Program) (S : World → Prop) (l : List Oper) (js : List Nat) (Q : Exit → Act → World → Prop) (e : Exit) (a : Act) (w : World) : Prop := e = .normal ∧ rtV l a = true ∧ lates P S l a js ∧ Q .normal a w
/-- The walk that stops at cuts, to show S. -/
def wpSeg (P : Program) (ops : Array Oper) (S : World → Prop) (Q : Exit → Act → World → Prop) : List Nat → List Oper → Act → World → Prop
  | [], l, a, w => wpList P ops Q l a w
  | m :: ms, l, a, w => wpList P ops (fun e a1 w1 => e = .normal ∧ S w1 ∧ wpSeg P ops S Q ms (l.drop m) a1 w1) (l.take m) a w

theorem mask_fold {md : Region.Mode} {acc : Array Nat} {k : Nat} : ∀ (es : List Edge), (es.foldr (fun e s => if Region.binds md e then s ||| 2 ^ e.on ||| acc.getD e.on 0 else s) 0).testBit k = true →
    ∃ e ∈ es, Region.binds md e = true ∧ (e.on = k ∨ (acc.getD e.on 0).testBit k = true)
  | [], h => by simp at h
  | e :: es, h => by
    simp only [List.foldr_cons] at h
    split at h
    · rename_i hb
      rw [Nat.testBit_or, Nat.testBit_or, Nat.testBit_two_pow] at h
      simp only [Bool.or_eq_true, decide_eq_true_eq] at h
      rcases h with (h | h) | h
      · obtain ⟨e2, h1, h2⟩ := mask_fold es h; exact ⟨e2, List.mem_cons_of_mem _ h1, h2⟩
      · exact ⟨e, List.mem_cons_self, hb, .inl h⟩
      · exact ⟨e, List.mem_cons_self, hb, .inr h⟩
    · obtain ⟨e2, h1, h2⟩ := mask_fold es h; exact ⟨e2, List.mem_cons_of_mem _ h1, h2⟩

theorem masks_sound {md : Region.Mode} {l0 : List Oper} : ∀ (l : List Oper) (acc : Array Nat), (∀ i, l[i]? = l0[acc.size + i]?) → (∀ j k, (acc.getD j 0).testBit k = true → Waits md l0.toArray j k) →
    ∀ j k, ((masks md l acc).getD j 0).testBit k = true → Waits md l0.toArray j k
  | [], _, _, h => h
  | o :: l, acc, hl, h => by
    refine masks_sound l (acc.push (maskOf md acc o)) (fun i => ?_) fun j k hb => ?_
    · have := hl (i + 1)
      simp only [List.getElem?_cons_succ] at this
      rw [this, Array.size_push]
      congr 1
      omega
    · by_cases hj : j = acc.size
      · subst hj
        have e0 : (acc.push (maskOf md acc o)).getD acc.size 0 = maskOf md acc o := by simp
        rw [e0] at hb
        have ho : l0.toArray[acc.size]? = some o := by
          have := hl 0
          simp only [List.getElem?_cons_zero, Nat.add_zero] at this
          simpa using this.symm
        obtain ⟨e, he, hbi, hk⟩ := mask_fold _ hb
        rcases hk with rfl | hk
        · exact .one ho (Array.mem_toList_iff.1 he) hbi
        · exact .more ho (Array.mem_toList_iff.1 he) hbi (h _ _ hk)
      · have e0 : (acc.push (maskOf md acc o)).getD j 0 = acc.getD j 0 := by
          simp only [Array.getD_eq_getD_getElem?, Array.getElem?_push, if_neg hj]
        rw [e0] at hb
        exact h j k hb

/-- The walk in the order of the text. -/
def lexP (P : Program) (n : Nat) (S : World → Prop) (ops : Array Oper) (Q : Act → World → Prop) : Nat → Nat → Act → World → Prop
  | 0, _, a, w => Q a w
  | f + 1, k, a, w => stepP P n S ops k (lexP P n S ops Q f (k + 1)) a w

theorem wpAnyP_lex {P : Program} {n : Nat} {S : World → Prop} {l : List Oper} {Q : Act → World → Prop} (hs : Region.noSelect l.toArray = true) : ∀ (f k : Nat) (listed : Array Bool) (a : Act) (w : World), k + f = l.length →
    Closed .any l.toArray listed → (∀ j, k ≤ j → listed.getD j false = false) → (∀ j, j < k → listed.getD j true = true) →
    lexB P n l (masks .any l #[]) f k listed = true → lexP P n S l.toArray Q f k a w → wpAnyP P n S .any l.toArray Q f listed a w
  | 0, _, _, _, _, _, _, _, _, hB, h => ⟨by simpa [lexB] using hB, h⟩
  | f + 1, k, listed, a, w, hlen, hcl, hun, hdone, hB, h => by
    simp only [lexB, Bool.and_eq_true] at hB
    obtain ⟨⟨hr, hf⟩, hB'⟩ := hB
    have hr' : k ∈ Region.ready .any l.toArray listed := by simpa using hr
    have hlt : k < l.length := by omega
    have hk : l.toArray[k]? = some l[k] := by simp [hlt]
    refine wpAnyP_first hk (Region.noSelect_spec hs) f listed a w hcl ?_ hr' (stepP_mono (fun a' w' h' => wpAnyP_lex hs f (k + 1) _ a' w' (by omega) (hcl.set hr') ?_ ?_ hB' h') h)
    · intro j oj hj hne hunj hnw
      have hjl : j < l.length := by
        have := (Array.getElem?_eq_some_iff.1 hj).1
        simpa using this
      have hkj : k < j := by
        rcases Nat.lt_trichotomy j k with h1 | h1 | h1
        · rw [hdone j h1] at hunj; cases hunj
        · exact absurd h1 hne
        · exact h1
      have hp := List.all_eq_true.1 hf j (List.mem_range'_1.2 ⟨by omega, by omega⟩)
      unfold pairB at hp
      rw [Bool.or_eq_true] at hp
      rcases hp with hp | hp
      · exact absurd (masks_sound (md := .any) (l0 := l) l #[] (fun i => by simp) (fun j k hb => by simp at hb) j k hp) hnw
      · have e1 : l[k]? = some l[k] := by simp [hlt]
        have e2 : l[j]? = some oj := by simpa using hj
        rw [e1, e2] at hp
        simpa using hp
    · intro j hj
      rw [getD_set_ne false (by omega)]
      exact hun j (by omega)
    · intro j hj
      by_cases hjk : k = j
      · subst hjk
        simp only [Array.getD_eq_getD_getElem?, Array.getElem?_setIfInBounds]
        simp
        split <;> rfl
      · rw [getD_set_ne true hjk]
        exact hdone j (by omega)

theorem put_keep {o : Oper} (a : Act) (u : Value) (t : Nat) (ht : o.dst ≠ some t) : (a.put o.dst u).tmps[t]? = a.tmps[t]? := by
  cases hd : o.dst with
  | none => rfl
  | some d => simp only [Act.put]; rw [Array.getElem?_setIfInBounds_ne]; intro e; exact ht (by rw [hd, e])

/-- One step of a walk with cuts. -/
def segNext (P : Program) (ops : Array Oper) (S : World → Prop) (Q : Exit → Act → World → Prop) (l : List Oper) : List Nat → Act → World → Prop
  | [], a, w => wpSeg P ops S Q [] l a w
  | m :: ms, a, w => if m = 1 then S w ∧ wpSeg P ops S Q ms l a w else wpSeg P ops S Q ((m - 1) :: ms) l a w

theorem wpSeg_cons {P : Program} {ops : Array Oper} {S : World → Prop} {Q : Exit → Act → World → Prop} (hp : ∀ c a w, ¬ Q (.panic c) a w) (ho : ¬ LetsOut Q) {o : Oper} {l : List Oper} {ms : List Nat} (hms : ∀ m ∈ ms.head?, 0 < m) {a : Act} {w : World}
    (h : wpSeg P ops S Q ms (o :: l) a w) : (Region.wanted o (yielded ops a.tmps) = true → o.wp P a w (segNext P ops S Q l ms) NoQ) ∧ (Region.wanted o (yielded ops a.tmps) = false → segNext P ops S Q l ms (a.put o.dst undef) w) := by
  cases ms with
  | nil =>
    simp only [wpSeg, wpList] at h
    refine ⟨fun hw => ?_, fun hw => ?_⟩
    · rw [if_pos hw] at h
      rcases h with h | ⟨_, h⟩
      · exact wp_toNoQ hp ho h
      · exact absurd h ho
    · rw [if_neg (by rw [hw]; simp)] at h
      exact h
  | cons m ms =>
    have hm : 0 < m := hms m (by simp)
    obtain ⟨m, rfl⟩ : ∃ m', m = m' + 1 := ⟨m - 1, by omega⟩
    simp only [wpSeg, List.take_succ_cons, List.drop_succ_cons, wpList] at h
    have conv : ∀ a w, wpList P ops (fun e a1 w1 => e = .normal ∧ S w1 ∧ wpSeg P ops S Q ms (l.drop m) a1 w1) (l.take m) a w → segNext P ops S Q l ((m + 1) :: ms) a w := fun a w h => by
      simp only [segNext]
      by_cases h0 : m = 0
      · subst h0
        simp only [List.take_zero, List.drop_zero, wpList] at h
        simp only [Nat.zero_add, if_true]
        exact h.2
      · rw [if_neg (by omega)]
        show wpSeg P ops S Q (m :: ms) l a w
        simp only [wpSeg]
        exact h
    refine ⟨fun hw => ?_, fun hw => ?_⟩
    · rw [if_pos hw] at h
      rcases h with h | ⟨_, h⟩
      · exact Oper.wp_mono conv (wp_toNoQ (fun _ _ _ h => by cases h.1) (fun ⟨_, _, h⟩ => by cases h.1) h)
      · obtain ⟨_, _, h⟩ := h; cases h.1
    · rw [if_neg (by rw [hw]; simp)] at h
      exact conv _ _ h

theorem final {P : Program} {ops : Array Oper} {S : World → Prop} {Q : Exit → Act → World → Prop} (hp : ∀ c a w, ¬ Q (.panic c) a w) (ho : ¬ LetsOut Q) : ∀ (l : List Oper) (ms : List Nat) (k n : Nat) (a : Act) (w : World), cutsB P n l k ms = true → wpSeg P ops S Q ms l a w →
    ∃ a' w', Q .normal a' w' ∧ ∀ t, (∀ o ∈ l, o.dst ≠ some t) → a'.tmps[t]? = a.tmps[t]?
  | [], ms, k, n, a, w, _, h => by
    have : ∀ ms, wpSeg P ops S Q ms [] a w → Q .normal a w := fun ms => by
      induction ms with
      | nil => exact fun h => h
      | cons m ms ih => exact fun h => ih (by simp only [wpSeg, List.take_nil, List.drop_nil, wpList] at h; exact h.2.2)
    exact ⟨a, w, this ms h, fun _ _ => rfl⟩
  | o :: l, ms, k, n, a, w, hc, h => by
    simp only [cutsB, Bool.and_eq_true] at hc
    obtain ⟨_, hc⟩ := hc
    have hms : ∀ m ∈ ms.head?, 0 < m := by
      intro m hm
      cases ms with
      | nil => simp at hm
      | cons m' ms => simp at hm; subst hm; simp only [Bool.and_eq_true, decide_eq_true_eq] at hc; exact hc.1
    obtain ⟨h1, h2⟩ := wpSeg_cons hp ho hms h
    have next : ∀ a w, segNext P ops S Q l ms a w → ∃ ms', cutsB P n l (k + 1) ms' = true ∧ wpSeg P ops S Q ms' l a w := fun a w hn => by
      cases ms with
      | nil => exact ⟨[], hc, hn⟩
      | cons m ms =>
        simp only [Bool.and_eq_true] at hc
        simp only [segNext] at hn
        split at hn
        · rename_i h1; exact ⟨ms, by have := hc.2; rwa [if_pos h1] at this, hn.2⟩
        · rename_i h1; exact ⟨_, by have := hc.2; rwa [if_neg h1] at this, hn⟩
    cases hw : Region.wanted o (yielded ops a.tmps) with
    | true =>
      obtain ⟨u, ds, w1, hn⟩ := wp_out (h1 hw)
      obtain ⟨ms', hc', hn'⟩ := next _ _ hn
      obtain ⟨a', w', hQ, hk⟩ := final hp ho l ms' (k + 1) n _ _ hc' hn'
      exact ⟨a', w', hQ, fun t ht => (hk t fun o2 h2 => ht o2 (List.mem_cons_of_mem _ h2)).trans (put_keep _ _ t (ht o List.mem_cons_self))⟩
    | false =>
      obtain ⟨ms', hc', hn'⟩ := next _ _ (h2 hw)
      obtain ⟨a', w', hQ, hk⟩ := final hp ho l ms' (k + 1) n _ _ hc' hn'
      exact ⟨a', w', hQ, fun t ht => (hk t fun o2 h2 => ht o2 (List.mem_cons_of_mem _ h2)).trans (put_keep _ _ t (ht o List.mem_cons_self))⟩

theorem eval_congr {o : Oper} {ops : Array Oper} {a a' : Act} (h : ∀ t ∈ o.looksAt ops, a'.tmps[t]? = a.tmps[t]?) : ∀ x ∈ o.op.operands, a'.eval x = a.eval x := fun x hx => by
  cases x with
  | tmp t =>
    have := h t (List.mem_append_left _ (List.mem_filterMap.2 ⟨.tmp t, by simpa using hx, rfl⟩))
    simp only [Act.eval, Array.getD_eq_getD_getElem?, this]
  | _ => rfl

theorem vals_congr {o : Oper} {ops : Array Oper} {a a' : Act} (h : ∀ t ∈ o.looksAt ops, a'.tmps[t]? = a.tmps[t]?) (hl : looked o = true) (hv : valsOk o a'.eval = true) : valsOk o a.eval = true := by
  have ev := eval_congr h
  obtain ⟨dst, op, type, pos, after, guard⟩ := o
  cases op <;> simp only [looked] at hl <;> first | (cases hl; done) | skip
  case nilCheck x => simp only [valsOk] at hv ⊢; rw [← ev x (by simp [Op.operands])]; exact hv
  case binOp op t x y yt => simp only [valsOk] at hv ⊢; rw [← ev x (by simp [Op.operands]), ← ev y (by simp [Op.operands])]; exact hv
  case convert s d x => simp only [valsOk] at hv ⊢; rw [← ev x (by simp [Op.operands])]; exact hv
  case call c =>
    simp only [valsOk] at hv ⊢
    cases hx : c.args[0]? with
    | none => cases hc : c.callee <;> simp_all
    | some x =>
      have hm : x ∈ c.operands := by simp only [Call.operands]; exact Array.mem_append.2 (.inr (Array.mem_of_getElem? hx))
      have e := ev x (by simpa [Op.operands] using hm)
      rw [hx] at hv
      cases hcl : c.callee with
      | builtin b => cases b <;> simp only [hcl] at hv ⊢ <;> first | (rw [← e]; exact hv) | exact hv
      | _ => rfl

theorem wanted_congr {o : Oper} {ops : Array Oper} {a a' : Act} (h : ∀ t ∈ o.looksAt ops, a'.tmps[t]? = a.tmps[t]?) : Region.wanted o (yielded ops a'.tmps) = Region.wanted o (yielded ops a.tmps) := by
  unfold Region.wanted
  cases hg : o.guard with
  | none => rfl
  | some gw =>
    obtain ⟨g, want⟩ := gw
    have hy : yielded ops a'.tmps g = yielded ops a.tmps g := by
      unfold yielded
      cases ht : (ops[g]?).bind (·.dst) with
      | none => rfl
      | some t =>
        have := h t (List.mem_append_right _ (by simp [hg, ht]))
        simp only [Option.bind_some, this]
    simp only [hy]

theorem lates_spec {P : Program} {S : World → Prop} {l : List Oper} {a : Act} : ∀ {js : List Nat}, lates P S l a js → ∀ j ∈ js, ∀ o, l[j]? = some o → Region.wanted o (yielded l.toArray a.tmps) = true → ∀ w2, S w2 → (execOp a.eval o).run P w2 = .ok (.value (a.eval (.tmp (o.dst.getD 0)))) w2
  | [], _, j, hj, _, _ => by simp at hj
  | i :: js, h, j, hj, o, ho => by
    simp only [lates] at h
    rcases List.mem_cons.1 hj with rfl | hj
    · have := h.1; rw [ho] at this; exact this
    · exact lates_spec h.2 j hj o ho

theorem cls_load {P : Program} {o : Oper} (h : clsOf P o = .load) : isLoad o = true := by
  obtain ⟨dst, op, type, pos, after, guard⟩ := o
  cases op <;> simp only [clsOf] at h <;> first | (cases h; done) | (split at h <;> cases h; done) | rfl
theorem cls_not_s {P : Program} {o : Oper} : clsOf P o ≠ .sload ∧ clsOf P o ≠ .sact := by
  obtain ⟨dst, op, type, pos, after, guard⟩ := o
  cases op <;> simp only [clsOf] <;> first | (constructor <;> simp; done) | (split <;> constructor <;> simp)

theorem lexP_of_seg {P : Program} {n : Nat} {S : World → Prop} {l0 : List Oper} {js : List Nat} {Q : Exit → Act → World → Prop} (hup : ∀ w w', S w → Below w.heap.size w w' → S w') (hst : (List.range l0.length).all (stillB n l0) = true)
    (hjs : ((List.range (min n l0.length)).all fun k => match l0[k]? with | some o => !isLoad o || js.contains k | none => true) = true) : ∀ (l : List Oper) (ms : List Nat) (k : Nat) (a : Act) (w : World), k + l.length = l0.length → (∀ i, l[i]? = l0[k + i]?) → cutsB P n l k ms = true →
    (k < n → S w) → wpSeg P l0.toArray S (Post2 P S l0 js Q) ms l a w → lexP P n S l0.toArray (fun a w => Q .normal a w) l.length k a w
  | [], ms, _, a, w, _, _, _, _, h => by
    have : ∀ ms, wpSeg P l0.toArray S (Post2 P S l0 js Q) ms [] a w → Q .normal a w := fun ms => by
      induction ms with
      | nil => exact fun h => h.2.2.2
      | cons m ms ih => exact fun h => ih (by simp only [wpSeg, List.take_nil, List.drop_nil, wpList] at h; exact h.2.2)
    exact this ms h
  | o :: l, ms, k, a, w, hlen, hl, hc, hS, h => by
    have hp : ∀ c a w, ¬ Post2 P S l0 js Q (.panic c) a w := fun c a w h => by cases h.1
    have ho : ¬ LetsOut (Post2 P S l0 js Q) := fun ⟨_, _, h⟩ => by cases h.1
    have hk0 : l0[k]? = some o := by have := hl 0; simpa using this.symm
    have hk : l0.toArray[k]? = some o := by simpa using hk0
    have hkl : k < l0.length := by simp only [List.length_cons] at hlen; omega
    have hdrop : l0.drop k = o :: l := by
      apply List.ext_getElem?
      intro i
      rw [List.getElem?_drop, ← hl i]
    have hdrop1 : l0.drop (k + 1) = l := by
      have := congrArg List.tail hdrop
      rw [List.tail_drop] at this
      exact this
    have hall := h
    have hcall := hc
    simp only [cutsB, Bool.and_eq_true] at hc
    obtain ⟨hcut, hc⟩ := hc
    have hms : ∀ m ∈ ms.head?, 0 < m := by
      intro m hm
      cases ms with
      | nil => simp at hm
      | cons m' ms => simp at hm; subst hm; simp only [Bool.and_eq_true, decide_eq_true_eq] at hc; exact hc.1
    obtain ⟨hwt, hwf⟩ := wpSeg_cons hp ho hms h
    -- what follows, where S is known of the world if it must be
    have hrest : ∀ a w, (k + 1 < n → ms.head? ≠ some 1 → S w) → segNext P l0.toArray S (Post2 P S l0 js Q) l ms a w → lexP P n S l0.toArray (fun a w => Q .normal a w) l.length (k + 1) a w := fun a w hSw hn => by
      have go : ∀ ms', cutsB P n l (k + 1) ms' = true → (k + 1 < n → S w) → wpSeg P l0.toArray S (Post2 P S l0 js Q) ms' l a w → lexP P n S l0.toArray (fun a w => Q .normal a w) l.length (k + 1) a w := fun ms' hc' hS' h' =>
        lexP_of_seg hup hst hjs l ms' (k + 1) a w (by simp only [List.length_cons] at hlen; omega) (fun i => by have := hl (i + 1); simp only [List.getElem?_cons_succ] at this; rw [this]; congr 1; omega) hc' hS' h'
      cases ms with
      | nil => exact go [] hc (fun hlt => hSw hlt (by simp)) hn
      | cons m ms =>
        simp only [Bool.and_eq_true] at hc
        simp only [segNext] at hn
        split at hn
        · rename_i h1; exact go ms (by have := hc.2; rwa [if_pos h1] at this) (fun _ => hn.1) hn.2
        · rename_i h1; exact go _ (by have := hc.2; rwa [if_neg h1] at this) (fun hlt => hSw hlt (by simpa using h1)) hn
    have agree : (looked o || isLoad o && decide (k < n)) = true → ∃ a' w', Post2 P S l0 js Q .normal a' w' ∧ (∀ t ∈ o.looksAt l0.toArray, a'.tmps[t]? = a.tmps[t]?) := fun hlk => by
      obtain ⟨a', w', hQ, hag⟩ := final hp ho _ ms k n _ _ hcall hall
      have hb := List.all_eq_true.1 hst k (List.mem_range.2 hkl)
      simp only [stillB, hk0, hlk, Bool.not_true, Bool.false_or, hdrop, List.all_eq_true] at hb
      exact ⟨a', w', hQ, fun t ht => hag t fun o2 h2 hd => by
        have := hb o2 h2
        simp only [hd] at this
        simp at this
        exact this ht⟩
    simp only [List.length_cons, lexP]
    unfold stepP
    simp only [hk]
    split
    · rename_i hw
      have h' := hwt hw
      cases hcl : clsOf P o with
      | pure =>
        have hca : clsAt P n k o = .pure := by simp [clsAt, hcl]
        simp only [hca]
        have hv : valsOk o a.eval = true := by
          cases hlk : looked o with
          | false =>
            obtain ⟨dst, op, type, pos, after, guard⟩ := o
            cases op <;> simp only [looked] at hlk <;> first | (cases hlk; done) | rfl
          | true =>
            obtain ⟨a', w', hQ, hagree⟩ := agree (by rw [hlk]; rfl)
            have hV := List.all_eq_true.1 hQ.2.1 o (List.mem_of_getElem? hk0)
            rw [wanted_congr hagree, hw, hlk] at hV
            simp only [Bool.not_true, Bool.false_or] at hV
            exact vals_congr hagree hlk hV
        rcases blind_pureOp hcl hv with ⟨m, hn⟩ | hn
        · obtain ⟨v, rfl⟩ := pure_yv hcl hv _ _ _ (hn w)
          refine ⟨v, hn, ?_⟩
          unfold Oper.wp at h'
          rw [hn w] at h'
          exact hrest _ _ (fun hlt _ => hS (by omega)) h'
        · unfold Oper.wp at h'
          cases hr : (execOp a.eval o).run P w with
          | ok n w' => exact absurd hr (hn _ _ _)
          | halt x w' => rw [hr] at h'; cases x <;> exact h'.elim
      | load =>
        obtain ⟨hsb, hyv⟩ := load_op (ev := a.eval) hcl
        by_cases hkn : k < n
        · have hca : clsAt P n k o = .sload := by simp [clsAt, hcl, hkn]
          simp only [hca]
          have hil := cls_load hcl
          obtain ⟨a', w', hQ, hagree⟩ := agree (by simp [hil, hkn])
          have hjk : k ∈ js := by
            have := List.all_eq_true.1 hjs k (List.mem_range.2 (by omega))
            simp only [hk0, hil, Bool.not_true, Bool.false_or] at this
            simpa using this
          have hlt := lates_spec hQ.2.2.1 k hjk o hk0 (by rw [wanted_congr hagree]; exact hw)
          have he : execOp a'.eval o = execOp a.eval o := execOp_congr o (fun cs b e => by rw [isLoad, e] at hil; cases hil) (eval_congr hagree)
          rw [he] at hlt
          refine ⟨hS hkn, _, hlt, ?_⟩
          unfold Oper.wp at h'
          rw [hlt w (hS hkn)] at h'
          exact hrest _ _ (fun hlt _ => hS (by omega)) h'
        · have hca : clsAt P n k o = .load := by simp [clsAt, hcl, hkn]
          simp only [hca]
          unfold Oper.wp at h'
          cases hr : (execOp a.eval o).run P w with
          | ok m w' =>
            obtain ⟨v, rfl⟩ := hyv _ _ _ hr
            obtain ⟨rfl, hs⟩ := hsb _ _ _ hr
            rw [hr] at h'
            exact ⟨v, hs, hrest _ _ (fun hlt _ => hS (by omega)) h'⟩
          | halt x w' => rw [hr] at h'; cases x <;> exact h'.elim
      | alloc =>
        obtain ⟨hmk, hyv⟩ := alloc_op (ev := a.eval) hcl
        by_cases hkn : k < n
        · have hca : clsAt P n k o = .sact := by simp [clsAt, hcl, hkn]
          simp only [hca]
          refine ⟨hS hkn, ?_⟩
          unfold Oper.wp at h' ⊢
          cases hr : (execOp a.eval o).run P w with
          | ok m w' =>
            obtain ⟨v, rfl⟩ := hyv _ _ _ hr
            rw [hr] at h'
            have hSw' := hup _ _ (hS hkn) (hmk _ _ _ hr)
            exact ⟨hSw', hrest _ _ (fun _ _ => hSw') h'⟩
          | halt x w' => rw [hr] at h'; cases x <;> exact h'.elim
        · have hca : clsAt P n k o = .alloc := by simp [clsAt, hcl, hkn]
          simp only [hca]
          unfold Oper.wp at h' ⊢
          cases hr : (execOp a.eval o).run P w with
          | ok m w' =>
            obtain ⟨v, rfl⟩ := hyv _ _ _ hr
            rw [hr] at h'
            exact ⟨hmk _ _ _ hr, hrest _ _ (fun hlt _ => absurd hlt (by omega)) h'⟩
          | halt x w' => rw [hr] at h'; cases x <;> exact h'.elim
      | eff =>
        by_cases hkn : k < n
        · have hca : clsAt P n k o = .sact := by simp [clsAt, hcl, hkn]
          simp only [hca]
          have h1 : ms.head? = some 1 := by
            simp only [hcl, Bool.or_eq_true, decide_eq_true_eq, Bool.not_eq_true', beq_eq_false_iff_ne] at hcut
            rcases hcut with (hcut | hcut) | hcut
            · omega
            · exact absurd rfl hcut
            · simpa using hcut
          refine ⟨hS hkn, Oper.wp_mono (fun a1 w1 hn => ⟨?_, hrest a1 w1 (fun _ hne => absurd h1 hne) hn⟩) h'⟩
          cases ms with
          | nil => simp at h1
          | cons m ms =>
            simp at h1
            subst h1
            simp only [segNext] at hn
            simp only [if_true] at hn
            exact hn.1
        · have hca : clsAt P n k o = .eff := by simp [clsAt, hcl, hkn]
          simp only [hca]
          exact Oper.wp_mono (fun a1 w1 hn => hrest a1 w1 (fun hlt _ => absurd hlt (by omega)) hn) h'
      | sload => exact absurd hcl cls_not_s.1
      | sact => exact absurd hcl cls_not_s.2
    · rename_i hw
      exact hrest _ _ (fun hlt _ => hS (by omega)) (hwf (by simpa using hw))

theorem rep_false (m j : Nat) : (Array.replicate m false).getD j false = false := by
  rcases Nat.lt_or_ge j m with h | h
  · simp [h]
  · simp [h]

/-- A REGION THAT DRAWS ITS ORDER, walked in the order of the text. Ahead of place n: loads that some call, append or store leaves as they are (S). -/
theorem region2 {P : Program} {id : Nat} {l : List Oper} {Q : Exit → Act → World → Prop} {a : Act} {w : World} (n : Nat) (ms js : List Nat) (S : World → Prop) (hm : P.follows .mixedOrders = true) (hB : rtB2 P n l ms js = true)
    (hS : S w.drew) (hup : ∀ w w', S w → Below w.heap.size w w' → S w')
    (h : wpSeg P l.toArray S (Post2 P S l js Q) ms l a w.drew) : (Code.region id l.toArray true).wp P Q a w := by
  simp only [rtB2, rtB, Bool.and_eq_true] at hB
  obtain ⟨⟨⟨⟨h1, h2⟩, h3⟩, h5⟩, h6⟩ := hB
  refine wp_region_any hm ?_
  have hX := wpAnyP_lex (P := P) (n := n) (S := S) (Q := fun a w => Q .normal a w) h1 l.length 0 (Array.replicate l.length false) a w.drew (by simp) (fun j o hj hl => by rw [rep_false] at hl; cases hl) (fun j _ => rep_false _ _) (fun j hj => by omega) h2
    (lexP_of_seg hup h3 h6 l ms 0 a w.drew (by simp) (fun i => by simp) h5 (fun _ => hS) h)
  have := wpAny_of_P (Q' := Q) (fun _ _ h => h) _ _ _ _ hX
  simpa using this

theorem cuts0 {P : Program} : ∀ (l : List Oper) (k : Nat), cutsB P 0 l k [] = true
  | [], _ => rfl
  | o :: l, k => by simp [cutsB, cuts0 l (k + 1)]
theorem wpList_Q {P : Program} {ops : Array Oper} {Q Q' : Exit → Act → World → Prop} (h : ∀ e a w, Q e a w → Q' e a w) : ∀ (l : List Oper) (a : Act) (w : World), wpList P ops Q l a w → wpList P ops Q' l a w
  | [], a, w, hh => h _ _ _ hh
  | o :: l, a, w, hh => by
    unfold wpList at hh ⊢
    split
    · rename_i hw
      rw [if_pos hw] at hh
      refine hh.imp (fun h1 => ?_) (fun h1 => ⟨h1.1, h1.2.imp fun a h2 => h2.imp fun w h3 => h _ _ _ h3⟩)
      have h2 := Oper.wp_mono (fun a w hk => wpList_Q h l a w hk) h1
      unfold Oper.wp at h2 ⊢
      generalize (execOp a.eval o).run P w = r at *
      cases r with
      | ok n w' =>
        cases n <;> simp only [Oper.upon] at h2 ⊢ <;> first | exact h2 | skip
        exact Calls.mono h2 fun e w'' he => by
          cases e with
          | returned v => exact he
          | panicked c => exact h _ _ _ he
          | outgrown => exact he.imp fun a h2 => h2.imp fun w h3 => h _ _ _ h3
      | halt x w' => cases x <;> simp only [Oper.upon] at h2 ⊢ <;> first | exact h _ _ _ h2 | exact h2
    · rename_i hw
      rw [if_neg hw] at hh
      exact wpList_Q h l _ _ hh
/-- The same where no load stands beside an act. -/
theorem region {P : Program} {id : Nat} {l : List Oper} {Q : Exit → Act → World → Prop} {a : Act} {w : World} (hm : P.follows .mixedOrders = true) (hB : rtB P 0 l = true)
    (h : wpList P l.toArray (Post l Q) l a w.drew) : (Code.region id l.toArray true).wp P Q a w := by
  refine region2 0 [] [] (fun _ => True) hm ?_ trivial (fun _ _ _ _ => trivial) ?_
  · unfold rtB2
    rw [hB, cuts0]
    simp
  · show wpList P l.toArray (Post2 P (fun _ => True) l [] Q) l a w.drew
    refine wpList_Q (fun e a w h => ⟨h.1, h.2.1, trivial, h.2.2⟩) l a _ h

/-- A load that stands in the first world stands in all that only have more blocks. -/
theorem late_below {P : Program} {o : Oper} {ev : Operand → Value} {w0 w1 w2 : World} {v : Value} (hc : isLoad o = true) (h : (execOp ev o).run P w0 = .ok (.value v) w1) (hb : Below w0.heap.size w0 w2) : (execOp ev o).run P w2 = .ok (.value v) w2 := by
  obtain ⟨dst, op, type, pos, after, guard⟩ := o
  cases op <;> simp only [isLoad] at hc <;> first | (cases hc; done) | skip
  case load t x => exact (Stable.bind (stable_loadAt t (ev x)) (fun _ => Stable.of_blind (blind_pure _)) _ _ _ h).2 w2 hb
#print axioms region2
#print axioms region
end Go.Rt
