/- Laws for walks by 'simp': what the operations of the abstract machine do at values that are known. -/
import Derived.Test.YtdgonebknphkcaaAbsZ
import Derived.IntWalk
set_option linter.unusedSimpArgs false
set_option linter.unusedVariables false
namespace Go.Abs

attribute [simp] List.getElem?_cons_zero List.getElem?_cons_succ
@[simp] theorem idG_eq (p : Prop) : idG p = p := propext Iff.rfl
@[simp] theorem bindV_some (v : Value) (k : Value → Prop) : bindV (some v) k = k v := propext Iff.rfl
@[simp] theorem condK_bool (b : Bool) (y n : Prop) : condK (.bool b) y n = if b = true then y else n := by cases b <;> simp [condK]
@[simp] theorem binV_add (s : Shp) (k : IntKind) (a b : Int) : binV .add s (.int k a) (.int k b) = some (.int k (k.wrap (a + b))) := by simp [binV, isShift, intV]
@[simp] theorem binV_sub (s : Shp) (k : IntKind) (a b : Int) : binV .sub s (.int k a) (.int k b) = some (.int k (k.wrap (a - b))) := by simp [binV, isShift, intV]
@[simp] theorem binV_mul (s : Shp) (k : IntKind) (a b : Int) : binV .mul s (.int k a) (.int k b) = some (.int k (k.wrap (a * b))) := by simp [binV, isShift, intV]
@[simp] theorem binV_eql (s : Shp) (k : IntKind) (a b : Int) : binV .eql s (.int k a) (.int k b) = some (.bool (decide (a = b))) := by simp only [binV, isShift, intV, if_true]; congr 2
@[simp] theorem binV_neq (s : Shp) (k : IntKind) (a b : Int) : binV .neq s (.int k a) (.int k b) = some (.bool (decide (a ≠ b))) := by
  simp only [binV, isShift, intV, if_true]; congr 2; by_cases h : a = b <;> simp [h]
@[simp] theorem binV_lss (s : Shp) (k : IntKind) (a b : Int) : binV .lss s (.int k a) (.int k b) = some (.bool (decide (a < b))) := by simp [binV, isShift, intV]
@[simp] theorem binV_leq (s : Shp) (k : IntKind) (a b : Int) : binV .leq s (.int k a) (.int k b) = some (.bool (decide (a ≤ b))) := by simp [binV, isShift, intV]
@[simp] theorem binV_gtr (s : Shp) (k : IntKind) (a b : Int) : binV .gtr s (.int k a) (.int k b) = some (.bool (decide (a > b))) := by simp [binV, isShift, intV]
@[simp] theorem binV_geq (s : Shp) (k : IntKind) (a b : Int) : binV .geq s (.int k a) (.int k b) = some (.bool (decide (a ≥ b))) := by simp [binV, isShift, intV]
@[simp] theorem binNil_int (o : BinOp) (s : Shp) (k : IntKind) (a b : Int) : binNil o s (.int k a) (.int k b) = binV o s (.int k a) (.int k b) := by cases o <;> cases s <;> rfl
@[simp] theorem binNil_string (o : BinOp) (s : Shp) (a b : ByteArray) : binNil o s (.string a) (.string b) = binV o s (.string a) (.string b) := by cases o <;> cases s <;> rfl
@[simp] theorem binNil_ptr_eql (x : Option Addr) : binNil .eql .ptr (.pointer x) (.pointer none) = some (.bool x.isNone) := by cases x <;> rfl
@[simp] theorem binNil_ptr_neq (x : Option Addr) : binNil .neq .ptr (.pointer x) (.pointer none) = some (.bool (!x.isNone)) := by cases x <;> rfl
@[simp] theorem binV_bool_eql (a b : Bool) : binV .eql .bool (.bool a) (.bool b) = some (.bool (a == b)) := rfl
@[simp] theorem binV_bool_neq (a b : Bool) : binV .neq .bool (.bool a) (.bool b) = some (.bool (!(a == b))) := rfl
@[simp] theorem binNil_bool_eql (a b : Bool) : binNil .eql .bool (.bool a) (.bool b) = some (.bool (a == b)) := rfl
@[simp] theorem binNil_bool_neq (a b : Bool) : binNil .neq .bool (.bool a) (.bool b) = some (.bool (!(a == b))) := rfl
@[simp] theorem unV_not (b : Bool) : unV .not (.bool b) = some (.bool !b) := rfl
@[simp] theorem unV_neg (k : IntKind) (n : Int) : unV .neg (.int k n) = some (.int k (k.wrap (0 - n))) := rfl
@[simp] theorem wrapV_int (k k' : IntKind) (n : Int) : wrapV k (.int k' n) = some (.int k (k.wrap n)) := rfl
@[simp] theorem nilV_ptr (a : Addr) : nilV (.pointer (some a)) = some (.pointer (some a)) := rfl
@[simp] theorem offV_ptr (o i off : Nat) : offV o (.pointer (some ⟨i, off, none⟩)) = some (.pointer (some ⟨i, off + o, none⟩)) := rfl
@[simp] theorem pickV_bool (t : Bool) (a b : Value) : pickV (.bool t) a b = some (if t = true then a else b) := by cases t <;> rfl
@[simp] theorem lenS_slice (a : Option Addr) (n c : Nat) : lenS (.slice a n c) = some (.int .i64 n) := rfl
@[simp] theorem capS_nil : capS (.slice none 0 0) = some (.int .i64 0) := rfl
@[simp] theorem lenT_string (s : ByteArray) : lenT (.string s) = some (.int .i64 s.size) := rfl
@[simp] theorem extV_two0 (v w : Value) : extV 0 (.tuple #[v, w]) = some v := by simp [extV]
@[simp] theorem extV_two1 (v w : Value) : extV 1 (.tuple #[v, w]) = some w := by simp [extV]
@[simp] theorem extV_three0 (v w x : Value) : extV 0 (.tuple #[v, w, x]) = some v := by simp [extV]
@[simp] theorem extV_three1 (v w x : Value) : extV 1 (.tuple #[v, w, x]) = some w := by simp [extV]
@[simp] theorem extV_three2 (v w x : Value) : extV 2 (.tuple #[v, w, x]) = some x := by simp [extV]
theorem bool_and (b c : Bool) : (b && c) = true ↔ b = true ∧ c = true := by simp

/-- The heap has changed nowhere but there. -/
def Chg (h h' : St) (S : List Nat) : Prop := h.next ≤ h'.next ∧ ∀ i, i < h.next → i ∉ S → h'.objs i = h.objs i
theorem Chg.refl (h : St) (S : List Nat) : Chg h h S := ⟨Nat.le_refl _, fun _ _ _ => rfl⟩
theorem Chg.trans {h h' h'' : St} {S T U : List Nat} (a : Chg h h' S) (b : Chg h' h'' T) (hS : ∀ i ∈ S, i ∈ U) (hT : ∀ i ∈ T, i < h.next → i ∈ U) : Chg h h'' U :=
  ⟨Nat.le_trans a.1 b.1, fun i hi hn => (b.2 i (Nat.lt_of_lt_of_le hi a.1) fun h => hn (hT i h hi)).trans (a.2 i hi fun h => hn (hS i h))⟩
theorem Chg.push {h : St} (o : AObj) (S : List Nat) : Chg h (h.push o) S := ⟨Nat.le_succ _, fun i hi _ => by simp [St.push, Nat.ne_of_lt hi]⟩
theorem Chg.set {h : St} {i : Nat} (o : AObj) {S : List Nat} (hi : i ∈ S) : Chg h (h.set i o) S := ⟨Nat.le_refl _, fun j _ hn => by
  simp only [St.set]; rw [if_neg]; intro e; exact hn (e ▸ hi)⟩
theorem Chg.at {h h' : St} {S : List Nat} (c : Chg h h' S) {i : Nat} {o : AObj} (hi : i < h.next) (hn : i ∉ S) (ho : h.objs i = some o) : h'.objs i = some o := (c.2 i hi hn).trans ho
@[simp] theorem push_at (h : St) (o : AObj) : (h.push o).objs h.next = some o := by simp [St.push]
@[simp] theorem push_next (h : St) (o : AObj) : (h.push o).next = h.next + 1 := rfl
@[simp] theorem set_next (h : St) (i : Nat) (o : AObj) : (h.set i o).next = h.next := rfl
@[simp] theorem kill_next (h : St) (i : Nat) : (h.kill i).next = h.next := rfl
@[simp] theorem set_at (h : St) (i : Nat) (o : AObj) : (h.set i o).objs i = some o := by simp [St.set]
theorem push_ne {h : St} {o : AObj} {i : Nat} (hi : i < h.next) : (h.push o).objs i = h.objs i := by simp [St.push, Nat.ne_of_lt hi]
theorem set_ne {h : St} {o : AObj} {i j : Nat} (hi : i ≠ j) : (h.set j o).objs i = h.objs i := by simp [St.set, hi]
theorem kill_ne {h : St} {i j : Nat} (hi : i ≠ j) : (h.kill j).objs i = h.objs i := by simp [St.kill, hi]

/-- A heap as they come: no object beyond the next number. -/
def St.Wf (h : St) : Prop := ∀ i o, h.objs i = some o → i < h.next
theorem specOk_wf {P : Program} (hm : P.follows .mixedOrders = true) {g : FuncId} {fn : Func} (hf : P.funcs[g]? = some fn) (hn : (fn.name == "runtime.NumGoroutine") = false) (hb : fn.body.isSome = true) {tab : List (FuncId × Spec)} (ht : ∀ p ∈ tab, SpecOk P p.1 p.2) (hl : ∀ p ∈ tab, SpecLive p.2)
    {S : Spec} {keep : List Bool} (H : ∀ args h k, h.Wf → S args h k → ∃ n, funcK P (tabC tab) idG keep n fn args h fun v h1 => ∃ h2, St.le h2 h1 ∧ k v h2) : SpecOk P g S := by
  have hn : fn.name ≠ "runtime.NumGoroutine" := fun e => by rw [e] at hn; simp at hn
  have hb : fn.body ≠ none := fun e => by rw [e] at hb; simp at hb
  intro args h k hS B w0 w ρ args' HR HL
  obtain ⟨n, hk⟩ := H args h k (fun i o ho => HR.wf ho) hS
  rw [run_call hf hn hb]
  exact funcK_sound (tabC_ok B w0 ht) (drawOk hm (tabC_ok B w0 ht) (tabC_live hl)) hf hb HR HL hk
/-- The globals have their blocks. -/
theorem globs_le {P : Program} {W : World} (h : W.ShapedOpen P) (h0 : Nat.blt P.globals.size (begin P (fun _ _ => 0) default).world.heap.size = true) : P.globals.size ≤ W.heap.size := by
  have h0 : P.globals.size < (begin P (fun _ _ => 0) default).world.heap.size := by simpa [Nat.blt_eq] using h0
  obtain ⟨o, _, h1, _⟩ := h.2 P.globals.size (Nat.le_refl _) h0
  exact Nat.le_of_lt (Array.getElem?_eq_some_iff.1 h1).1
@[simp] theorem guardK_bool (b want : Bool) (y n : Prop) : guardK (.bool b) want y n = if b = want then y else n := by cases b <;> cases want <;> rfl
theorem groupK_eq (v : Value) (want : Bool) (l : List Value) (h : St) (body : (List Value → St → Prop) → Prop) (J : List Value → St → Prop) : groupK v want l h body J = guardK v want (body J) (J l h) := propext Iff.rfl
@[simp] theorem allocE_some (cs : List Value) (h : St) (k : Cont) : allocE (some cs) h k = k (.pointer (some ⟨h.next, 0, none⟩)) (h.push (.cells cs true)) := propext Iff.rfl
/-! ### cells -/
def allOne : List Value → Bool
  | [] => true
  | v :: l => one v && allOne l
theorem allOne_eq : ∀ l : List Value, l.all one = allOne l
  | [] => rfl
  | v :: l => by rw [List.all_cons, allOne, allOne_eq l]
@[simp] theorem allOne_nil : allOne [] = true := rfl
@[simp] theorem allOne_cons (v : Value) (l : List Value) : allOne (v :: l) = (one v && allOne l) := rfl
theorem allOne_append : ∀ l r : List Value, allOne (l ++ r) = (allOne l && allOne r)
  | [], r => by simp
  | v :: l, r => by simp [allOne_append l r, Bool.and_assoc]
@[simp] theorem one_int (k : IntKind) (n : Int) : one (.int k n) = true := rfl
@[simp] theorem one_bool (b : Bool) : one (.bool b) = true := rfl
@[simp] theorem one_string (b : ByteArray) : one (.string b) = true := rfl
@[simp] theorem one_pointer (b : Option Addr) : one (.pointer b) = true := rfl
@[simp] theorem one_map (b : Option Nat) : one (.map b) = true := rfl
@[simp] theorem one_slice (a : Option Addr) (n c : Nat) : one (.slice a n c) = true := rfl
@[simp] theorem cells_agg (cs : Array Value) : (Value.agg cs).cells = cs := rfl
@[simp] theorem cells_int (k : IntKind) (n : Int) : (Value.int k n).cells = #[.int k n] := rfl
@[simp] theorem cells_bool (b : Bool) : (Value.bool b).cells = #[.bool b] := rfl
@[simp] theorem cells_string (b : ByteArray) : (Value.string b).cells = #[.string b] := rfl
@[simp] theorem cells_pointer (b : Option Addr) : (Value.pointer b).cells = #[.pointer b] := rfl
@[simp] theorem cells_map (b : Option Nat) : (Value.map b).cells = #[.map b] := rfl
@[simp] theorem cells_slice (a : Option Addr) (n c : Nat) : (Value.slice a n c).cells = #[.slice a n c] := rfl
@[simp] theorem isUnk_int (k : IntKind) (n : Int) : isUnk (.int k n) = false := rfl
@[simp] theorem isUnk_bool (b : Bool) : isUnk (.bool b) = false := rfl
@[simp] theorem isUnk_string (b : ByteArray) : isUnk (.string b) = false := rfl
@[simp] theorem isUnk_pointer (b : Option Addr) : isUnk (.pointer b) = false := rfl
@[simp] theorem isUnk_map (b : Option Nat) : isUnk (.map b) = false := rfl
@[simp] theorem isUnk_slice (a : Option Addr) (n c : Nat) : isUnk (.slice a n c) = false := rfl
@[simp] theorem isUnk_agg (cs : Array Value) : isUnk (.agg cs) = false := rfl
@[simp] theorem boxE_eq (v : Value) (h : St) (k : Cont) : boxE v h k = (allOne v.cells.toList = true ∧ k (.pointer (some ⟨h.next, 0, none⟩)) (h.push (.cells v.cells.toList true))) := by unfold boxE; rw [allOne_eq]
def storeM (n i off : Nat) (v : Value) (h : St) (k : Cont) : Option AObj → Prop
  | some (.cells cs true) => (v.cells.size = n ∧ off + n ≤ cs.length ∧ allOne v.cells.toList = true) ∧ k undef (h.set i (.cells (cs.take off ++ v.cells.toList ++ cs.drop (off + n)) true))
  | _ => False
@[simp] theorem storeE_ptr (n i off : Nat) (v : Value) (h : St) (k : Cont) : storeE n (.pointer (some ⟨i, off, none⟩)) v h k = storeM n i off v h k (h.objs i) := by
  simp only [storeE, storeM, allOne_eq]
  rcases h.objs i with _ | (⟨cs, _ | _⟩ | _ | _) <;> rfl
@[simp] theorem storeM_cells (n i off : Nat) (v : Value) (h : St) (k : Cont) (cs : List Value) :
    storeM n i off v h k (some (.cells cs true)) = ((v.cells.size = n ∧ off + n ≤ cs.length ∧ allOne v.cells.toList = true) ∧ k undef (h.set i (.cells (cs.take off ++ v.cells.toList ++ cs.drop (off + n)) true))) := propext Iff.rfl
def loadM (agg : Bool) (n off : Nat) : Option AObj → Option Value
  | some (.cells cs _) => partV agg n cs off
  | _ => none
@[simp] theorem loadV_ptr (agg : Bool) (n i off : Nat) (h : St) : loadV agg n (.pointer (some ⟨i, off, none⟩)) h = loadM agg n off (h.objs i) := by
  simp only [loadV, loadM]
  rcases h.objs i with _ | (⟨cs, _ | _⟩ | _ | _) <;> rfl
@[simp] theorem loadM_cells (agg : Bool) (n off : Nat) (cs : List Value) (own : Bool) : loadM agg n off (some (.cells cs own)) = partV agg n cs off := rfl
@[simp] theorem partV_one (n off : Nat) (cs : List Value) : partV false n cs off = cs[off]? := rfl
@[simp] theorem partV_agg (n off : Nat) (cs : List Value) : partV true n cs off = (takeN cs off n).map fun l => .agg l.toArray := rfl
@[simp] theorem makeMapE_eq (h : St) (k : Cont) : makeMapE h k = k (.map (some h.next)) (h.push (.map [] 0)) := propext Iff.rfl
@[simp] theorem lenM_some (r : Nat) (h : St) : lenM (.map (some r)) h = (match h.objs r with | some (.map es _) => some (.int .i64 es.length) | _ => none) := rfl
theorem Chg.of_push {h h' : St} {S : List Nat} {o : AObj} (c : Chg h h' S) : Chg h (h'.push o) S := c.trans (Chg.push _ []) (fun _ h => h) (by simp)
theorem Chg.of_set {h h' : St} {S : List Nat} {o : AObj} {i : Nat} (c : Chg h h' S) (hi : i ∈ S ∨ h.next ≤ i) : Chg h (h'.set i o) S :=
  c.trans (Chg.set (S := [i]) o (by simp)) (fun _ h => h) (by intro j hj hlt; simp at hj; subst hj; rcases hi with h | h; exact h; omega)
theorem Chg.kill {h : St} {i : Nat} : Chg h (h.kill i) [i] := ⟨Nat.le_refl _, fun j _ hn => kill_ne (by simpa using hn)⟩
theorem Chg.of_kill {h h' : St} {S : List Nat} {i : Nat} (c : Chg h h' S) (hi : i ∈ S ∨ h.next ≤ i) : Chg h (h'.kill i) S :=
  c.trans Chg.kill (fun _ h => h) (by intro j hj hlt; simp at hj; subst hj; rcases hi with h | h; exact h; omega)
theorem Chg.of_chg {h h' h'' : St} {S T : List Nat} (c : Chg h h' S) (d : Chg h' h'' T) (hi : ∀ i ∈ T, i ∈ S ∨ h.next ≤ i) : Chg h h'' S :=
  c.trans d (fun _ h => h) (by intro j hj hlt; rcases hi j hj with h | h; exact h; omega)
def lookM (key : KeyMode) (zero : Value) (ok : Bool) (k : Value) : Option AObj → Option Value
  | some (.map es _) => (find key k es).map fun
      | some (_, e) => outV ok e.val true
      | none => outV ok zero false
  | _ => none
theorem lookV_ptr (key : KeyMode) (zero : Value) (ok : Bool) (r : Nat) (k : Value) (h : St) : lookV key zero ok (.map (some r)) k h = lookM key zero ok k (h.objs r) := by
  simp only [lookV, lookM]
  rcases h.objs r with _ | (_ | _ | _) <;> rfl
@[simp] theorem lookM_map (key : KeyMode) (zero : Value) (ok : Bool) (k : Value) (es : List MapEntry) (c : Nat) : lookM key zero ok k (some (.map es c)) = (find key k es).map fun
      | some (_, e) => outV ok e.val true
      | none => outV ok zero false := rfl
def updM (key : KeyMode) (r : Nat) (k x : Value) (h : St) (K : Cont) : Option AObj → Prop
  | some (.map es clock) => match find key k es with
      | some (some (i, _)) => K undef (h.set r (.map (entrySet es i k x) clock))
      | some none => K undef (h.set r (.map (es ++ [⟨k, x, clock⟩]) (clock + 1)))
      | none => False
  | _ => False
theorem mapUpdateE_ptr (key : KeyMode) (r : Nat) (k x : Value) (h : St) (K : Cont) : mapUpdateE key (.map (some r)) k x h K = updM key r k x h K (h.objs r) := by
  simp only [mapUpdateE, updM]
  rcases h.objs r with _ | (_ | _ | _) <;> rfl
@[simp] theorem updM_map (key : KeyMode) (r : Nat) (k x : Value) (h : St) (K : Cont) (es : List MapEntry) (clock : Nat) : updM key r k x h K (some (.map es clock)) = match find key k es with
      | some (some (i, _)) => K undef (h.set r (.map (entrySet es i k x) clock))
      | some none => K undef (h.set r (.map (es ++ [⟨k, x, clock⟩]) (clock + 1)))
      | none => False := propext Iff.rfl
def delM (key : KeyMode) (r : Nat) (k : Value) (h : St) (K : Cont) : Option AObj → Prop
  | some (.map es clock) => match find key k es with
      | some (some (i, _)) => K undef (h.set r (.map (es.eraseIdx i) clock))
      | some none => K undef h
      | none => False
  | _ => False
theorem deleteE_ptr (key : KeyMode) (r : Nat) (k : Value) (h : St) (K : Cont) : deleteE key (.map (some r)) k h K = delM key r k h K (h.objs r) := by
  simp only [deleteE, delM]
  rcases h.objs r with _ | (_ | _ | _) <;> rfl
@[simp] theorem delM_map (key : KeyMode) (r : Nat) (k : Value) (h : St) (K : Cont) (es : List MapEntry) (clock : Nat) : delM key r k h K (some (.map es clock)) = match find key k es with
      | some (some (i, _)) => K undef (h.set r (.map (es.eraseIdx i) clock))
      | some none => K undef h
      | none => False := propext Iff.rfl
@[simp] theorem outV_true (v : Value) (b : Bool) : outV true v b = .tuple #[v, .bool b] := rfl
@[simp] theorem outV_false (v : Value) (b : Bool) : outV false v b = v := rfl
@[simp] theorem find_int (k : IntKind) (n : Int) (es : List MapEntry) : find (.int k) (.int k n) es = findE (.int k n) es 0 := by simp [find]
theorem Chg.mono {h h' : St} {S T : List Nat} (c : Chg h h' S) (hs : ∀ i ∈ S, i ∈ T) : Chg h h' T := ⟨c.1, fun i hi hn => c.2 i hi fun h => hn (hs i h)⟩
/-- Tests behind one another. -/
theorem groupK_and (b : Bool) (u xs : List Value) (i : Nat) (h : St) (F : St → Value → Prop) :
    groupK (.bool b) true u h (fun J => J xs h) (fun xs h => bindV (pickV (.bool b) (getT xs i) (.bool false)) (F h)) = F h (if b = true then getT xs i else .bool false) := by
  rw [groupK_eq, guardK_bool]
  cases b <;> simp
theorem groupK_or (b : Bool) (u xs : List Value) (i : Nat) (h : St) (F : St → Value → Prop) :
    groupK (.bool b) false u h (fun J => J xs h) (fun xs h => bindV (pickV (.bool b) (.bool true) (getT xs i)) (F h)) = F h (if b = true then .bool true else getT xs i) := by
  rw [groupK_eq, guardK_bool]
  cases b <;> simp
@[simp] theorem ite_and (b c : Bool) : (if b = true then Value.bool c else .bool false) = .bool (b && c) := by cases b <;> rfl
@[simp] theorem ite_or (b c : Bool) : (if b = true then Value.bool true else .bool c) = .bool (b || c) := by cases b <;> rfl
@[simp] theorem takeN_lit1 (a : Value) : takeN [a] 0 1 = some [a] := rfl
@[simp] theorem takeN_lit2 (a b : Value) : takeN [a, b] 0 2 = some [a, b] := rfl
@[simp] theorem takeN_lit3 (a b c : Value) : takeN [a, b, c] 0 3 = some [a, b, c] := rfl
@[simp] theorem takeN_lit4 (a b c d : Value) : takeN [a, b, c, d] 0 4 = some [a, b, c, d] := rfl
@[simp] theorem takeN_lit5 (a b c d e : Value) : takeN [a, b, c, d, e] 0 5 = some [a, b, c, d, e] := rfl
@[simp] theorem push_at1 (h : St) (o o' : AObj) : ((h.push o).push o').objs (h.next + 1) = some o' := push_at (h.push o) o'
@[simp] theorem push_at2 (h : St) (o o' o2 : AObj) : (((h.push o).push o').push o2).objs (h.next + 1 + 1) = some o2 := push_at ((h.push o).push o') o2
@[simp] theorem push_at3 (h : St) (o o' o2 o3 : AObj) : ((((h.push o).push o').push o2).push o3).objs (h.next + 1 + 1 + 1) = some o3 := push_at (((h.push o).push o').push o2) o3
@[simp] theorem push_at4 (h : St) (o o' o2 o3 o4 : AObj) : (((((h.push o).push o').push o2).push o3).push o4).objs (h.next + 1 + 1 + 1 + 1) = some o4 := push_at ((((h.push o).push o').push o2).push o3) o4
@[simp] theorem push_at5 (h : St) (o o' o2 o3 o4 o5 : AObj) : ((((((h.push o).push o').push o2).push o3).push o4).push o5).objs (h.next + 1 + 1 + 1 + 1 + 1) = some o5 := push_at (((((h.push o).push o').push o2).push o3).push o4) o5
/-! ### 'attribute [local congr]' of these lets simp look at what is at hand alone, not at the rest -/
theorem bindV_weak {dd : Prop} {o o' : Option Value} {k : Value → Prop} (e : o = o') (_t : ((0 : Nat) = 0) = dd) : bindV o k = bindV o' k := by rw [e]
theorem condK_weak {dd : Prop} {v v' : Value} {y n : Prop} (e : v = v') (_t : ((0 : Nat) = 0) = dd) : condK v y n = condK v' y n := by rw [e]
theorem guardK_weak {dd : Prop} {v v' : Value} {w : Bool} {y n : Prop} (e : v = v') (_t : ((0 : Nat) = 0) = dd) : guardK v w y n = guardK v' w y n := by rw [e]
theorem groupK_weak {dd : Prop} {v v' : Value} {w : Bool} {l l' : List Value} {h : St} {body : (List Value → St → Prop) → Prop} {J : List Value → St → Prop} (e : v = v') (el : l = l') (_t : ((0 : Nat) = 0) = dd) : groupK v w l h body J = groupK v' w l' h body J := by rw [e, el]
theorem allocE_weak {dd : Prop} {o o' : Option (List Value)} {h h' : St} {k : Cont} (e : o = o') (eh : h = h') (_t : ((0 : Nat) = 0) = dd) : allocE o h k = allocE o' h' k := by rw [e, eh]
theorem boxE_weak {dd : Prop} {o o' : Value} {h h' : St} {k : Cont} (e : o = o') (eh : h = h') (_t : ((0 : Nat) = 0) = dd) : boxE o h k = boxE o' h' k := by rw [e, eh]
theorem storeE_weak {dd : Prop} {n : Nat} {p p' v v' : Value} {h h' : St} {k : Cont} (e : p = p') (ev : v = v') (eh : h = h') (_t : ((0 : Nat) = 0) = dd) : storeE n p v h k = storeE n p' v' h' k := by rw [e, ev, eh]
theorem storeM_weak {dd : Prop} {n i off : Nat} {v v' : Value} {h h' : St} {k : Cont} {o o' : Option AObj} (ev : v = v') (eh : h = h') (eo : o = o') (_t : ((0 : Nat) = 0) = dd) : storeM n i off v h k o = storeM n i off v' h' k o' := by rw [ev, eh, eo]
theorem tabC_weak {dd : Prop} {tab : List (FuncId × Spec)} {f : FuncId} {args args' : List Value} {h h' : St} {k : Cont} (e : args = args') (eh : h = h') (_t : ((0 : Nat) = 0) = dd) : tabC tab f args h k = tabC tab f args' h' k := by rw [e, eh]
theorem ite_weak {dd : Prop} {c c' : Prop} [Decidable c] [Decidable c'] {y n : Prop} (e : c = c') (_t : ((0 : Nat) = 0) = dd) : (if c then y else n) = (if c' then y else n) := by subst e; congr
theorem idG_weak {dd : Prop} {p p' : Prop} (e : p = p') (_t : ((0 : Nat) = 0) = dd) : idG p = idG p' := by rw [e]
end Go.Abs
