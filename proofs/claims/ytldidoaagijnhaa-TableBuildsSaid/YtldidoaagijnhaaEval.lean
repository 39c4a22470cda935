/- The equations by which simp runs my walk. What comes after a step is kept as data (lists of operations and of code), so that simp never looks into it. -/
import Derived.Test.YtldidoaagijnhaaCode
namespace Go.Proofs.Ytldidoaagijnhaa
set_option linter.unusedSimpArgs false
set_option linter.unusedVariables false
namespace H
section
variable (P : Program)

-- frames and operands
theorem ev_tmp (f : Fr) (t : Nat) : ev f (.tmp t) = f t := rfl
theorem ev_const (f : Fr) (v : Value) : ev f (.const v) = v := rfl
theorem ev_func (f : Fr) (k : FuncId) : ev f (.func k) = .func (.func k) #[] #[] := rfl
theorem ev_global (f : Fr) (g : Nat) : ev f (.global g) = .pointer (some ⟨g, 0, none⟩) := rfl
theorem upd_same (f : Fr) (d : Nat) (v : Value) : upd f d v d = v := by simp [upd]
theorem upd_ne (f : Fr) (d t : Nat) (v : Value) (h : (t == d) = false) : upd f d v t = f t := by
  have : ¬ t = d := by simpa using h
  simp [upd, this]
theorem upd_apply (f : Fr) (d t : Nat) (v : Value) : upd f d v t = if t = d then v else f t := rfl
theorem put_some (f : Fr) (d : Nat) (v : Value) : put f (some d) v = upd f d v := rfl
theorem put_none (f : Fr) (v : Value) : put f none v = f := rfl
theorem init_nil (t : Nat) : init [] t = undef := rfl
theorem init_zero (v : Value) (l : List Value) : init (v :: l) 0 = v := rfl
theorem init_succ (v : Value) (l : List Value) (t : Nat) : init (v :: l) (t + 1) = init l t := rfl
theorem str_eq (l : List UInt8) : Value.string ⟨List.toArray l⟩ = str l := rfl
theorem str_of (s : ByteArray) : Value.string s = str s.data.toList := rfl


def cel (v : Value) : Array Value := v.cells
def one (v : Value) : Bool := v.oneCell'

-- what comes after, as data
inductive Kn where
  | code (c : Code)
  | blk (id : Nat)
  | scp
def cont (P : Program) : List Kn → (Exit → Fr → List Res → Prop) → (Exit → Fr → List Res → Prop)
  | [], Q => Q
  | .code c :: s, Q => gthen (fun f h => hc P c f h (cont P s Q)) (cont P s Q)
  | .blk id :: s, Q => gblock id (cont P s Q)
  | .scp :: s, Q => gscope (cont P s Q)
/-- A point of the program: the slot that is waited for, the region's operations, those that are left, what comes after the region. -/
structure Pt where
  d : Option Nat
  ops : List Oper
  rest : List Oper
  s : List Kn

def R (c : Code) (s : List Kn) (f : Fr) (h : List Res) (Q : Exit → Fr → List Res → Prop) : Prop := hc P c f h (cont P s Q)
def RN (s : List Kn) (f : Fr) (h : List Res) (Q : Exit → Fr → List Res → Prop) : Prop := cont P s Q .normal f h
def RX (id : Nat) (s : List Kn) (f : Fr) (h : List Res) (Q : Exit → Fr → List Res → Prop) : Prop := cont P s Q (.exit id) f h
def RR (s : List Kn) (f : Fr) (h : List Res) (Q : Exit → Fr → List Res → Prop) : Prop := cont P s Q .ret f h
def RC (v : Value) (a b : Code) (s : List Kn) (f : Fr) (h : List Res) (Q : Exit → Fr → List Res → Prop) : Prop := hif v (R P a s f h Q) (R P b s f h Q)
def RLoop (c : Code) (s : List Kn) (f : Fr) (h : List Res) (Q : Exit → Fr → List Res → Prop) : Prop := hloop (hc P c) f h (cont P s Q)
def RDraw (ops : Array Oper) (s : List Kn) (f : Fr) (h : List Res) (Q : Exit → Fr → List Res → Prop) : Prop := hdraw P ops f h (cont P s Q .normal)
def RL (ops l : List Oper) (s : List Kn) (f : Fr) (h : List Res) (Q : Exit → Fr → List Res → Prop) : Prop := hl P ops l f h (cont P s Q .normal)
def RV (κ : Pt) (v : Value) (f : Fr) (h : List Res) (Q : Exit → Fr → List Res → Prop) : Prop := RL P κ.ops κ.rest κ.s (put f κ.d v) h Q
def RVo (o : Option Value) (κ : Pt) (f : Fr) (h : List Res) (Q : Exit → Fr → List Res → Prop) : Prop := wO o fun v => RV P κ v f h Q
def RHo (o : Option (List Res)) (κ : Pt) (f : Fr) (Q : Exit → Fr → List Res → Prop) : Prop := wO o fun h => RV P κ undef f h Q
def RO (op : Op) (ty : TypeId) (κ : Pt) (f : Fr) (h : List Res) (Q : Exit → Fr → List Res → Prop) : Prop := hop P op ty f h fun v h' => RV P κ v f h' Q
def RG (v : Value) (want : Bool) (op : Op) (ty : TypeId) (κ : Pt) (f : Fr) (h : List Res) (Q : Exit → Fr → List Res → Prop) : Prop := hguard v want (RO P op ty κ f h Q) (RV P κ undef f h Q)
def RB (op : BinOp) (t : TypeId) (x y : Operand) (a b : Value) (κ : Pt) (f : Fr) (h : List Res) (Q : Exit → Fr → List Res → Prop) : Prop := hbin P op t x y a b fun v => RV P κ v f h Q
def RPick (c a b : Value) (κ : Pt) (f : Fr) (h : List Res) (Q : Exit → Fr → List Res → Prop) : Prop := hpick c a b fun v => RV P κ v f h Q
def RNil (x : Value) (κ : Pt) (f : Fr) (h : List Res) (Q : Exit → Fr → List Res → Prop) : Prop := hnil x fun v => RV P κ v f h Q
def RExt (x : Value) (i : Nat) (κ : Pt) (f : Fr) (h : List Res) (Q : Exit → Fr → List Res → Prop) : Prop := hext x i fun v => RV P κ v f h Q
def RConv (s d : TypeId) (x : Value) (κ : Pt) (f : Fr) (h : List Res) (Q : Exit → Fr → List Res → Prop) : Prop := hconv P s d x h fun v h' => RV P κ v f h' Q
def RNew (t : TypeId) (cs : Array Value) (κ : Pt) (f : Fr) (h : List Res) (Q : Exit → Fr → List Res → Prop) : Prop := hnew t cs h fun v h' => RV P κ v f h' Q
def RNewo (o : Option Value) (t : TypeId) (κ : Pt) (f : Fr) (h : List Res) (Q : Exit → Fr → List Res → Prop) : Prop := wO o fun z => RNew P t z.cells κ f h Q
def RRun (e : Sem Value) (κ : Pt) (f : Fr) (h : List Res) (Q : Exit → Fr → List Res → Prop) : Prop := hrun P e h fun v h' => RV P κ v f h' Q
-- the library's steps under names that simp does not open
def sBuild (t : TypeId) (n : Nat) (parts : Array (Nat × Value)) : Sem Value := Instr.buildSlice t n parts
def sMakeMap (t : TypeId) (r : Option Value) : Sem Value := Instr.makeMap t r
def sMakeSlice (t : TypeId) (l c : Value) : Sem Value := Instr.makeSlice t l c
def sLookup (t : TypeId) (x i : Value) (ok : Bool) : Sem Value := Instr.lookup t x i ok
def sMapUpdate (t : TypeId) (m k x : Value) : Sem Unit := Instr.mapUpdate t m k x
def sAppend (tys : Array TypeId) (ty : TypeId) (args : Array Value) : Sem Value := Builtin.append_ tys ty args
def sCopy (tys : Array TypeId) (ty : TypeId) (args : Array Value) : Sem Value := Builtin.copy_ tys ty args
def sClear (tys : Array TypeId) (ty : TypeId) (args : Array Value) : Sem Value := Builtin.clear_ tys ty args
def RRunU (e : Sem Unit) (κ : Pt) (f : Fr) (h : List Res) (Q : Exit → Fr → List Res → Prop) : Prop := hrunU P e h fun h' => RV P κ undef f h' Q
def RVal (fv : Value) (args : Array Value) (κ : Pt) (f : Fr) (h : List Res) (Q : Exit → Fr → List Res → Prop) : Prop := hval P fv args h fun v h' => RV P κ v f h' Q
def RCall (k : FuncId) (args : Array Value) (κ : Pt) (f : Fr) (h : List Res) (Q : Exit → Fr → List Res → Prop) : Prop := hcall P k args h fun v h' => RV P κ v f h' Q

section
variable (s : List Kn) (f : Fr) (h : List Res) (Q : Exit → Fr → List Res → Prop)
theorem R_skip : R P .skip s f h Q = RN P s f h Q := rfl
theorem R_region (id : Nat) (l : List Oper) : R P (.region id (List.toArray l) false) s f h Q = RL P l l s f h Q := rfl
theorem R_draw (id : Nat) (ops : Array Oper) : R P (.region id ops true) s f h Q = RDraw P ops s f h Q := rfl
theorem R_seq (a b : Code) : R P (.seq a b) s f h Q = R P a (.code b :: s) f h Q := rfl
theorem R_cond (c : Operand) (a b : Code) : R P (.cond c a b) s f h Q = RC P (ev f c) a b s f h Q := rfl
theorem R_block (id : Nat) (c : Code) : R P (.block id c) s f h Q = R P c (.blk id :: s) f h Q := rfl
theorem R_loop (c : Code) : R P (.loop c) s f h Q = RLoop P c s f h Q := rfl
theorem R_exit (id : Nat) : R P (.exit id) s f h Q = RX P id s f h Q := rfl
theorem R_scope (c : Code) : R P (.scope c) s f h Q = R P c (.scp :: s) f h Q := rfl
theorem R_label (l : Nat) : R P (.label l) s f h Q = RN P s f h Q := rfl
theorem R_ret : R P .ret s f h Q = RR P s f h Q := rfl
theorem RC_t (a b : Code) : RC P (.bool true) a b s f h Q = R P a s f h Q := by simp [RC, hif, Br]
theorem RC_f (a b : Code) : RC P (.bool false) a b s f h Q = R P b s f h Q := by simp [RC, hif, Br]
theorem RN_nil : RN P [] f h Q = Q .normal f h := rfl
theorem RN_code (c : Code) : RN P (.code c :: s) f h Q = R P c s f h Q := rfl
theorem RN_blk (id : Nat) : RN P (.blk id :: s) f h Q = RN P s f h Q := rfl
theorem RN_scp : RN P (.scp :: s) f h Q = RN P s f h Q := rfl
theorem RX_nil (id : Nat) : RX P id [] f h Q = Q (.exit id) f h := rfl
theorem RX_code (id : Nat) (c : Code) : RX P id (.code c :: s) f h Q = RX P id s f h Q := rfl
theorem RX_blk (id j : Nat) : RX P id (.blk j :: s) f h Q = if id = j then RN P s f h Q else RX P id s f h Q := rfl
theorem RX_scp (id : Nat) : RX P id (.scp :: s) f h Q = RX P id s f h Q := rfl
theorem RR_eq : RR P s f h Q = Q .ret f h := by
  unfold RR
  induction s with
  | nil => rfl
  | cons k s ih => cases k <;> exact ih
theorem RL_nil (ops : List Oper) : RL P ops [] s f h Q = RN P s f h Q := rfl
theorem RL_cons (ops rest : List Oper) (d : Option Nat) (op : Op) (ty : TypeId) (pos : String) (aft : Array Edge) :
    RL P ops (⟨d, op, ty, pos, aft, none⟩ :: rest) s f h Q = RO P op ty ⟨d, ops, rest, s⟩ f h Q := rfl
theorem RL_guard (ops rest : List Oper) (d : Option Nat) (op : Op) (ty : TypeId) (pos : String) (aft : Array Edge) (j : Nat) (b : Bool) :
    RL P ops (⟨d, op, ty, pos, aft, some (j, b)⟩ :: rest) s f h Q = RG P (gv ops j f) b op ty ⟨d, ops, rest, s⟩ f h Q := rfl
end
theorem gv_zero (ops : List Oper) (d : Nat) (op : Op) (ty : TypeId) (pos : String) (aft : Array Edge) (g : Option (Nat × Bool)) (f : Fr) : gv (⟨some d, op, ty, pos, aft, g⟩ :: ops) 0 f = f d := rfl
theorem gv_succ (o : Oper) (ops : List Oper) (j : Nat) (f : Fr) : gv (o :: ops) (j + 1) f = gv ops j f := by simp [gv]

section
variable (κ : Pt) (f : Fr) (h : List Res) (Q : Exit → Fr → List Res → Prop) (ty : TypeId)
theorem RV_eq (d : Option Nat) (ops rest : List Oper) (s : List Kn) (v : Value) : RV P ⟨d, ops, rest, s⟩ v f h Q = RL P ops rest s (put f d v) h Q := rfl
theorem RVo_some (v : Value) : RVo P (some v) κ f h Q = RV P κ v f h Q := by simp [RVo, wO]
theorem RHo_some (h' : List Res) : RHo P (some h') κ f Q = RV P κ undef f h' Q := by simp [RHo, wO]
theorem RG_tt (op : Op) : RG P (.bool true) true op ty κ f h Q = RO P op ty κ f h Q := by simp [RG, hguard, Br]
theorem RG_ff (op : Op) : RG P (.bool false) false op ty κ f h Q = RO P op ty κ f h Q := by simp [RG, hguard, Br]
theorem RG_tf (op : Op) : RG P (.bool true) false op ty κ f h Q = RV P κ undef f h Q := by simp [RG, hguard, Br]
theorem RG_ft (op : Op) : RG P (.bool false) true op ty κ f h Q = RV P κ undef f h Q := by simp [RG, hguard, Br]
theorem RG_u (want : Bool) (op : Op) : RG P undef want op ty κ f h Q = RV P κ undef f h Q := rfl
theorem RO_move (x : Operand) : RO P (.move x) ty κ f h Q = RV P κ (ev f x) f h Q := rfl
theorem RO_assign (x : Operand) : RO P (.assign x) ty κ f h Q = RV P κ (ev f x) f h Q := rfl
theorem RO_pick (c a b : Operand) : RO P (.pick c a b) ty κ f h Q = RPick P (ev f c) (ev f a) (ev f b) κ f h Q := rfl
theorem RPick_t (a b : Value) : RPick P (.bool true) a b κ f h Q = RV P κ a f h Q := rfl
theorem RPick_f (a b : Value) : RPick P (.bool false) a b κ f h Q = RV P κ b f h Q := rfl
theorem RO_alloc (t : TypeId) : RO P (.alloc t) ty κ f h Q = RNewo P (zeroT P t) t κ f h Q := rfl
theorem RNewo_some (t : TypeId) (z : Value) : RNewo P (some z) t κ f h Q = RNew P t (cel z) κ f h Q := by simp [RNewo, wO, cel]
theorem RO_box (t : TypeId) (x : Operand) : RO P (.box t x) ty κ f h Q = RNew P t (cel (ev f x)) κ f h Q := rfl
theorem RO_build (t : TypeId) (parts : Array (Nat × Operand)) : RO P (.build t parts) ty κ f h Q = RVo P (pureV P (Instr.build t (parts.map fun x => (x.1, ev f x.2)))) κ f h Q := rfl
theorem RO_buildSlice (t : TypeId) (n : Nat) (parts : Array (Nat × Operand)) : RO P (.buildSlice t n parts) ty κ f h Q = RRun P (sBuild t n (parts.map fun x => (x.1, ev f x.2))) κ f h Q := rfl
/-- What a load gives. -/
def loadK (k : Option (Option Nat)) (p : Value) (h : List Res) : Option Value :=
  match k, p with
  | some none, .pointer (some ad) => look ad h
  | some (some n), .pointer (some ad) => (lookN ad n h).map .agg
  | _, _ => none
theorem loadK_one (ad : Addr) : loadK (some none) (.pointer (some ad)) h = look ad h := rfl
theorem loadK_agg (n : Nat) (ad : Addr) : loadK (some (some n)) (.pointer (some ad)) h = (lookN ad n h).map .agg := rfl
theorem hload_eq (t : TypeId) (p : Value) (K : Value → List Res → Prop) : hload P t p h K = wO (loadK (ldk P t) p h) fun v => K v h := by
  unfold hload
  cases p with
  | pointer a =>
    cases a with
    | none => cases hk : ldk P t with
      | none => simp [loadK, wO]
      | some k => cases k <;> simp [loadK, wO]
    | some ad =>
      cases hk : ldk P t with
      | none => simp [loadK, wO]
      | some k =>
        cases k with
        | none => simp [loadK, wO]
        | some n => cases hl : lookN ad n h <;> simp [loadK, wO, hl]
  | _ => cases hk : ldk P t with
    | none => simp [loadK, wO]
    | some k => cases k <;> simp [loadK, wO]
theorem RO_load (t : TypeId) (a : Operand) : RO P (.load t a) ty κ f h Q = RVo P (loadK (ldk P t) (ev f a) h) κ f h Q := by
  unfold RO RVo
  exact hload_eq P h t (ev f a) (fun v h' => RV P κ v f h' Q)
/-- What a store leaves. -/
def storeK (z : Option Nat) (p v : Value) (h : List Res) : Option (List Res) :=
  match z, p with
  | some n, .pointer (some ad) => if v.cells.size = n then hsetN ad v.cells.toList 0 h else none
  | _, _ => none
theorem storeK_eq (n : Nat) (ad : Addr) (v : Value) : storeK (some n) (.pointer (some ad)) v h = if (cel v).size = n then hsetN ad (cel v).toList 0 h else none := rfl
theorem RO_store (t : TypeId) (a x : Operand) : RO P (.store t a x) ty κ f h Q = RHo P (storeK (szOf P t) (ev f a) (ev f x) h) κ f Q := by
  unfold RO RHo hop
  simp only
  unfold hstore
  cases ev f a with
  | pointer p =>
    cases p with
    | none => cases szOf P t <;> simp [storeK, wO]
    | some ad =>
      cases hz : szOf P t with
      | none => simp [storeK, wO]
      | some n =>
        by_cases hn : (ev f x).cells.size = n
        · simp [storeK, wO, hn]
        · simp [storeK, wO, hn]
  | _ => cases szOf P t <;> simp [storeK, wO]
theorem RO_nilCheck (x : Operand) : RO P (.nilCheck x) ty κ f h Q = RNil P (ev f x) κ f h Q := rfl
theorem RNil_ptr (a : Addr) : RNil P (.pointer (some a)) κ f h Q = RV P κ (.pointer (some a)) f h Q := rfl
theorem RNil_func (k : FuncId) (a b : Array Value) : RNil P (.func (.func k) a b) κ f h Q = RV P κ (.func (.func k) a b) f h Q := rfl
theorem RO_binOp (op : BinOp) (t t' : TypeId) (x y : Operand) : RO P (.binOp op t x y t') ty κ f h Q = RB P op t x y (ev f x) (ev f y) κ f h Q := rfl
theorem RB_int (op : BinOp) (t : TypeId) (x y : Operand) (k k' : IntKind) (a b : Int) : RB P op t x y (.int k a) (.int k' b) κ f h Q = RVo P (intV op k a k' b) κ f h Q := rfl
theorem RB_str (op : BinOp) (t : TypeId) (x y : Operand) (a b : List UInt8) : RB P op t x y (str a) (str b) κ f h Q = RVo P (strV op ⟨a.toArray⟩ ⟨b.toArray⟩) κ f h Q := rfl
def RBb (k : Option Kd) (o : Option Value) (κ : Pt) (f : Fr) (h : List Res) (Q : Exit → Fr → List Res → Prop) : Prop := match k with | some .bool => RVo P o κ f h Q | _ => False
theorem RB_bool (op : BinOp) (t : TypeId) (x y : Operand) (a b : Bool) : RB P op t x y (.bool a) (.bool b) κ f h Q = RBb P (kd P t) (boolV op a b) κ f h Q := by
  unfold RB hbin RBb
  simp only
  cases hk : kd P t with
  | none => simp [wO]
  | some k => cases k <;> simp [wO, RVo]
theorem RBb_eq (o : Option Value) : RBb P (some .bool) o κ f h Q = RVo P o κ f h Q := rfl
def bindV {α : Type} (o : Option α) (g : α → Option Value) : Option Value := o.bind g
theorem bindV_some {α : Type} (x : α) (g : α → Option Value) : bindV (some x) g = g x := rfl
theorem RB_ptr (op : BinOp) (t : TypeId) (x y : Operand) (a b : Option Addr) : RB P op t x y (.pointer a) (.pointer b) κ f h Q = RVo P ((kd P t).bind fun k => nilV op k (.pointer a) (.pointer b)) κ f h Q := by
  unfold RB hbin RVo
  simp only
  cases hk : kd P t <;> simp [wO]
theorem RB_slice (op : BinOp) (t : TypeId) (x y : Operand) (a b : Option Addr) (n c n' c' : Nat) : RB P op t x y (.slice a n c) (.slice b n' c') κ f h Q = RVo P ((kd P t).bind fun k => nilV op k (.slice a n c) (.slice b n' c')) κ f h Q := by
  unfold RB hbin RVo
  simp only
  cases hk : kd P t <;> simp [wO]
theorem RB_agg (op : BinOp) (t : TypeId) (x y : Operand) (a b : Array Value) : RB P op t x y (.agg a) (.agg b) κ f h Q = RVo P (pureV P (binS op t x y (.agg a) (.agg b))) κ f h Q := rfl
theorem RO_unOp (op : UnOp) (t : TypeId) (x : Operand) : RO P (.unOp op t x) ty κ f h Q = RVo P (pureV P (Op.unary op (ev f x))) κ f h Q := rfl
theorem RO_convert (s d : TypeId) (x : Operand) : RO P (.convert s d x) ty κ f h Q = RConv P s d (ev f x) κ f h Q := rfl
theorem wO_bind {α β : Type} (o : Option α) (g : α → Option β) (K : β → Prop) : (wO o fun x => wO (g x) K) = wO (o.bind g) K := by
  cases o <;> simp [wO]
theorem RConv_int (s d : TypeId) (q : IntKind) (n : Int) : RConv P s d (.int q n) κ f h Q = RVo P ((kd P s).bind fun _ => (kd P d).bind fun k => (ikd k).map fun k => .int k (k.wrap n)) κ f h Q := by
  unfold RConv hconv RVo
  simp only
  rw [← wO_bind]
  rcases h0 : kd P s with _ | k0
  · simp [wO]
  · rcases h1 : kd P d with _ | k1
    · simp [wO]
    · rcases h2 : ikd k1 with _ | k2
      · simp [wO, h2]
      · simp [wO, h2]
def RCv (b : Bool) (e : Sem Value) (κ : Pt) (f : Fr) (h : List Res) (Q : Exit → Fr → List Res → Prop) : Prop := b = false ∧ RRun P e κ f h Q
theorem RCv_f (e : Sem Value) : RCv P false e κ f h Q = RRun P e κ f h Q := by simp [RCv]
theorem convI_str : convI (some .str) = false := rfl
theorem convI_slice (e z : Nat) : convI (some (.slice e z)) = false := rfl
theorem RConv_str (s d : TypeId) (l : List UInt8) : RConv P s d (str l) κ f h Q = RCv P (convI (kd P s)) (convert s d (str l)) κ f h Q := rfl
theorem RConv_slice (s d : TypeId) (a : Option Addr) (n c : Nat) : RConv P s d (.slice a n c) κ f h Q = RCv P (convI (kd P s)) (convert s d (.slice a n c)) κ f h Q := rfl
theorem RO_makeFunc (fn : Go.Fn) (a b : Array Operand) : RO P (.makeFunc fn a b) ty κ f h Q = RV P κ (.func fn (a.map (ev f)) (b.map (ev f))) f h Q := rfl
theorem RO_makeMap (t : TypeId) (r : Option Operand) : RO P (.makeMap t r) ty κ f h Q = RRun P (sMakeMap t (r.map (ev f))) κ f h Q := rfl
theorem RO_makeSlice (t : TypeId) (l c : Operand) : RO P (.makeSlice t l c) ty κ f h Q = RRun P (sMakeSlice t (ev f l) (ev f c)) κ f h Q := rfl
theorem RO_slice (t : TypeId) (x : Operand) (lo hi : Option Operand) : RO P (.slice t x lo hi none) ty κ f h Q = RVo P ((kd P t).bind fun k => sliV k (ev f x) (lo.map (ev f)) (hi.map (ev f))) κ f h Q := wO_bind _ _ _
theorem RO_fieldAddr (s : TypeId) (x : Operand) (i : Nat) : RO P (.fieldAddr s x i) ty κ f h Q = RVo P ((kd P s).bind fun k => fldA k (ev f x) i) κ f h Q := wO_bind _ _ _
theorem RO_field (s : TypeId) (x : Operand) (i : Nat) : RO P (.field s x i) ty κ f h Q = RVo P ((kd P s).bind fun k => fldV k (ev f x) i) κ f h Q := wO_bind _ _ _
theorem RO_indexAddr (t : TypeId) (x i : Operand) : RO P (.indexAddr t x i) ty κ f h Q = RVo P ((kd P t).bind fun k => addrV k (ev f x) (ev f i)) κ f h Q := wO_bind _ _ _
theorem RO_index (t : TypeId) (x i : Operand) : RO P (.index t x i) ty κ f h Q = RVo P ((kd P t).bind fun k => idxV k (ev f x) (ev f i)) κ f h Q := wO_bind _ _ _
theorem RO_extract (t : Operand) (i : Nat) : RO P (.extract t i) ty κ f h Q = RExt P (ev f t) i κ f h Q := rfl
theorem RExt_zero (v : Value) (l : List Value) : RExt P (.tuple (List.toArray (v :: l))) 0 κ f h Q = RV P κ v f h Q := by simp [RExt, hext, wO]
theorem RExt_succ (v : Value) (l : List Value) (i : Nat) : RExt P (.tuple (List.toArray (v :: l))) (i + 1) κ f h Q = RExt P (.tuple (List.toArray l)) i κ f h Q := by simp [RExt, hext, wO]
theorem RO_lookup (t : TypeId) (x i : Operand) (ok : Bool) : RO P (.lookup t x i ok) ty κ f h Q = RRun P (sLookup t (ev f x) (ev f i) ok) κ f h Q := rfl
theorem RO_mapUpdate (t : TypeId) (m k x : Operand) : RO P (.mapUpdate t m k x) ty κ f h Q = RRunU P (sMapUpdate t (ev f m) (ev f k) (ev f x)) κ f h Q := rfl
theorem RO_call (fv : Operand) (args : Array Operand) (tys : Array TypeId) : RO P (.call ⟨.value fv, args, tys⟩) ty κ f h Q = RVal P (ev f fv) (args.map (ev f)) κ f h Q := rfl
theorem RVal_func (k : FuncId) (a args c : Array Value) : RVal P (.func (.func k) a c) args κ f h Q = RCall P k (a ++ args ++ c) κ f h Q := rfl
theorem RO_len (x : Operand) (t : TypeId) : RO P (.call ⟨.builtin .len, #[x], #[t]⟩) ty κ f h Q = RVo P ((kd P t).bind fun k => lenV k (ev f x)) κ f h Q := by
  unfold RO RVo
  rw [← wO_bind]
  simp [hop, hbuiltin]
theorem RO_min (args : Array Operand) (tys : Array TypeId) : RO P (.call ⟨.builtin .min, args, tys⟩) ty κ f h Q = RVo P (pureV P (Builtin.min_ tys ty (args.map (ev f)))) κ f h Q := rfl
theorem RO_max (args : Array Operand) (tys : Array TypeId) : RO P (.call ⟨.builtin .max, args, tys⟩) ty κ f h Q = RVo P (pureV P (Builtin.max_ tys ty (args.map (ev f)))) κ f h Q := rfl
theorem RO_append (args : Array Operand) (tys : Array TypeId) : RO P (.call ⟨.builtin .append, args, tys⟩) ty κ f h Q = RRun P (sAppend tys ty (args.map (ev f))) κ f h Q := rfl
theorem RO_copy (args : Array Operand) (tys : Array TypeId) : RO P (.call ⟨.builtin .copy, args, tys⟩) ty κ f h Q = RRun P (sCopy tys ty (args.map (ev f))) κ f h Q := rfl
theorem RO_clear (args : Array Operand) (tys : Array TypeId) : RO P (.call ⟨.builtin .clear, args, tys⟩) ty κ f h Q = RRun P (sClear tys ty (args.map (ev f))) κ f h Q := rfl
end
theorem ikd_int (k : IntKind) : ikd (.int k) = some k := rfl

section
variable (k : IntKind) (a b : Int)
theorem intV_add : intV .add k a k b = some (.int k (k.wrap (a + b))) := by simp [intV, intW]
theorem intV_sub : intV .sub k a k b = some (.int k (k.wrap (a - b))) := by simp [intV, intW]
theorem intV_mul : intV .mul k a k b = some (.int k (k.wrap (a * b))) := by simp [intV, intW]
theorem intV_quo (h : b ≠ 0) : intV .quo k a k b = some (.int k (k.wrap (a.tdiv b))) := by simp [intV, intW, h]
theorem intV_rem (h : b ≠ 0) : intV .rem k a k b = some (.int k (a.tmod b)) := by simp [intV, intW, h]
theorem intV_and : intV .and k a k b = some (.int k (bits .and k a b)) := by simp [intV, intW]
theorem intV_or : intV .or k a k b = some (.int k (bits .or k a b)) := by simp [intV, intW]
theorem intV_xor : intV .xor k a k b = some (.int k (bits .xor k a b)) := by simp [intV, intW]
theorem intV_andNot : intV .andNot k a k b = some (.int k (bits .andNot k a b)) := by simp [intV, intW]
theorem intV_eql : intV .eql k a k b = some (.bool (decide (a = b))) := by simp [intV, intW]
theorem intV_neq : intV .neq k a k b = some (.bool (!decide (a = b))) := by simp [intV, intW]
theorem intV_lss : intV .lss k a k b = some (.bool (decide (a < b))) := by simp [intV, intW]
theorem intV_leq : intV .leq k a k b = some (.bool (decide (a ≤ b))) := by simp [intV, intW]
theorem intV_gtr : intV .gtr k a k b = some (.bool (decide (b < a))) := by simp [intV, intW]
theorem intV_geq : intV .geq k a k b = some (.bool (decide (b ≤ a))) := by simp [intV, intW]
theorem intV_shl (k' : IntKind) (h : 0 ≤ b) : intV .shl k a k' b = some (.int k (k.wrap (a * 2 ^ (min b.toNat k.bits)))) := by simp [intV, h]
theorem intV_shr (k' : IntKind) (h : 0 ≤ b) : intV .shr k a k' b = some (.int k (a.fdiv (2 ^ (min b.toNat k.bits)))) := by simp [intV, h]
end
theorem wrap64 (n : Int) (h : -9223372036854775808 ≤ n) (h' : n ≤ 9223372036854775807) : IntKind.i64.wrap n = n := by
  rw [show IntKind.i64.wrap n = (n + 9223372036854775808) % 18446744073709551616 - 9223372036854775808 from by simp [IntKind.wrap, IntKind.bits, IntKind.signed]; split <;> omega]; omega
theorem wrap8 (n : Int) (h : 0 ≤ n) (h' : n ≤ 255) : IntKind.u8.wrap n = n := by
  rw [show IntKind.u8.wrap n = n % 256 from by simp [IntKind.wrap, IntKind.bits, IntKind.signed]]; omega
theorem wrap32 (n : Int) (h : 0 ≤ n) (h' : n ≤ 4294967295) : IntKind.u32.wrap n = n := by
  rw [show IntKind.u32.wrap n = n % 4294967296 from by simp [IntKind.wrap, IntKind.bits, IntKind.signed]]; omega
theorem wrapu64 (n : Int) (h : 0 ≤ n) (h' : n ≤ 18446744073709551615) : IntKind.u64.wrap n = n := by
  rw [show IntKind.u64.wrap n = n % 18446744073709551616 from by simp [IntKind.wrap, IntKind.bits, IntKind.signed]]; omega
theorem size_mk (l : List UInt8) : (ByteArray.mk l.toArray).size = l.length := rfl
theorem strV_add (a b : List UInt8) (h : a.length + b.length ≤ 9223372036854775807) : strV .add ⟨a.toArray⟩ ⟨b.toArray⟩ = some (str (a ++ b)) := by
  have e : (ByteArray.mk a.toArray ++ ByteArray.mk b.toArray) = ⟨(a ++ b).toArray⟩ := by apply ByteArray.ext; simp
  simp [strV, size_mk, h, e, str]
theorem strV_eql (a b : List UInt8) : strV .eql ⟨a.toArray⟩ ⟨b.toArray⟩ = some (.bool (decide (a = b))) := by
  have e : (a == b) = decide (a = b) := Bool.eq_iff_iff.2 (by simp)
  simp [strV, ByteArray.toList_mk, e]
theorem strV_neq (a b : List UInt8) : strV .neq ⟨a.toArray⟩ ⟨b.toArray⟩ = some (.bool (!decide (a = b))) := by
  have e : (a == b) = decide (a = b) := Bool.eq_iff_iff.2 (by simp)
  simp [strV, ByteArray.toList_mk, e]
theorem boolV_eql (a b : Bool) : boolV .eql a b = some (.bool (a == b)) := rfl
theorem boolV_neq (a b : Bool) : boolV .neq a b = some (.bool (!(a == b))) := rfl
theorem nilV_eql (e : Nat) (p : Option Addr) : nilV .eql (.ptr e) (.pointer p) (.pointer none) = some (.bool p.isNone) := rfl
theorem nilV_neq (e : Nat) (p : Option Addr) : nilV .neq (.ptr e) (.pointer p) (.pointer none) = some (.bool (!p.isNone)) := rfl
theorem pure_not (b : Bool) : pureV P (Op.unary .not (.bool b)) = some (.bool (!b)) := pureV_eq fun _ => rfl
theorem pure_neg (k : IntKind) (n : Int) : pureV P (Op.unary .neg (.int k n)) = some (.int k (k.wrap (0 - n))) := pureV_eq fun _ => rfl
theorem pure_min (tys : Array TypeId) (ty : TypeId) (k k' : IntKind) (a b : Int) : pureV P (Builtin.min_ tys ty #[.int k a, .int k' b]) = some (.int k (min a b)) := pureV_eq fun w => by
  have : (Builtin.min_ tys ty #[.int k a, .int k' b]).run P w = .ok (.int k (if b < a then b else a)) w := rfl
  rw [this]; congr 2; split <;> omega
theorem pure_max (tys : Array TypeId) (ty : TypeId) (k k' : IntKind) (a b : Int) : pureV P (Builtin.max_ tys ty #[.int k a, .int k' b]) = some (.int k (max a b)) := pureV_eq fun w => by
  have : (Builtin.max_ tys ty #[.int k a, .int k' b]).run P w = .ok (.int k (if b > a then b else a)) w := rfl
  rw [this]; congr 2; split <;> omega

-- places
theorem idxV_str (l : List UInt8) (q : IntKind) (n : Int) (h0 : 0 ≤ n) (h1 : n < l.length) : idxV .str (str l) (.int q n) = some (byte (l.getD n.toNat 0)) := by
  have h1' : n < ((ByteArray.mk l.toArray).size : Nat) := by rw [size_mk]; exact h1
  simp only [idxV, str, h0, h1', and_self, if_true]
theorem idxV_arr (len e : Nat) (cs : Array Value) (q : IntKind) (n : Int) (h0 : 0 ≤ n) (h1 : n < len) : idxV (.arr len e 1 false) (.agg cs) (.int q n) = cs[n.toNat]? := by simp [idxV, h0, h1]
theorem addrV_slice (e z : Nat) (b o : Nat) (len cap : Nat) (q : IntKind) (n : Int) (h0 : 0 ≤ n) (h1 : n < len) : addrV (.slice e z) (.slice (some ⟨b, o, none⟩) len cap) (.int q n) = some (.pointer (some ⟨b, o + n.toNat * z, none⟩)) := by
  have : (Addr.add ⟨b, o, none⟩ (n.toNat * z)) = ⟨b, o + n.toNat * z, none⟩ := by unfold Addr.add; split <;> simp_all
  simp [addrV, h0, h1, this]
theorem addrV_arr (len e z : Nat) (a : Bool) (b o : Nat) (q : IntKind) (n : Int) (h0 : 0 ≤ n) (h1 : n < len) : addrV (.arr len e z a) (.pointer (some ⟨b, o, none⟩)) (.int q n) = some (.pointer (some ⟨b, o + n.toNat * z, none⟩)) := by
  have : (Addr.add ⟨b, o, none⟩ (n.toNat * z)) = ⟨b, o + n.toNat * z, none⟩ := by unfold Addr.add; split <;> simp_all
  simp [addrV, h0, h1, this]
theorem sliV_lo (l : List UInt8) (q : IntKind) (n : Int) (h0 : 0 ≤ n) (h1 : n ≤ l.length) : sliV .str (str l) (some (.int q n)) none = some (str (l.drop n.toNat)) := by
  have h1' : n ≤ ((ByteArray.mk l.toArray).size : Nat) := by rw [size_mk]; exact h1
  simp only [sliV, str, numO, Option.bind_some, h0, h1', true_and, Int.le_refl, if_true, Lib.extract_eq]
  congr 3
  rw [size_mk, List.take_of_length_le (by simp)]
theorem sliV_hi (l : List UInt8) (q : IntKind) (n : Int) (h0 : 0 ≤ n) (h1 : n ≤ l.length) : sliV .str (str l) none (some (.int q n)) = some (str (l.take n.toNat)) := by
  have h1' : n ≤ ((ByteArray.mk l.toArray).size : Nat) := by rw [size_mk]; exact h1
  simp only [sliV, str, numO, Option.bind_some, h0, h1', Int.le_refl, and_self, if_true, Lib.extract_eq]
  simp
theorem sliV_both (l : List UInt8) (q q' : IntKind) (m n : Int) (h0 : 0 ≤ m) (h1 : m ≤ n) (h2 : n ≤ l.length) : sliV .str (str l) (some (.int q m)) (some (.int q' n)) = some (str ((l.drop m.toNat).take (n.toNat - m.toNat))) := by
  have h1' : n ≤ ((ByteArray.mk l.toArray).size : Nat) := by rw [size_mk]; exact h2
  simp only [sliV, str, numO, Option.bind_some, h0, h1, h1', and_self, if_true, Lib.extract_eq]
theorem fldA_at (fs : List (Nat × Nat × Bool)) (b o i : Nat) : fldA (.struct fs) (.pointer (some ⟨b, o, none⟩)) i = (fs[i]?).bind fun x => if x.2.1 = 0 then none else some (.pointer (some ⟨b, o + x.1, none⟩)) := by
  have : ∀ n, (Addr.add ⟨b, o, none⟩ n) = ⟨b, o + n, none⟩ := by intro n; unfold Addr.add; split <;> simp_all
  simp only [fldA, this]
  cases fs[i]? <;> rfl
theorem fldV_at (fs : List (Nat × Nat × Bool)) (cs : Array Value) (i : Nat) : fldV (.struct fs) (.agg cs) i = (fs[i]?).bind fun x => if x.2.2 then some (.agg (cs.extract x.1 (x.1 + x.2.1))) else cs[x.1]? := by
  simp only [fldV]
  cases fs[i]? <;> rfl
theorem lenV_str (l : List UInt8) : lenV .str (str l) = some (.int .i64 l.length) := rfl
theorem lenV_slice (e z : Nat) (a : Option Addr) (n c : Nat) : lenV (.slice e z) (.slice a n c) = some (.int .i64 n) := rfl
theorem lenV_arr (n e z : Nat) (b : Bool) (x : Value) : lenV (.arr n e z b) x = some (.int .i64 n) := rfl


-- memory
theorem look_same (g o : Nat) (t : TypeId) (cs : Array Value) (h : List Res) : look ⟨g, o, none⟩ (.cells g t cs :: h) = cs[o]? := by simp [look]
theorem look_ne (b g o : Nat) (s : Option Nat) (t : TypeId) (cs : Array Value) (h : List Res) (hne : b ≠ g) : look ⟨b, o, s⟩ (.cells g t cs :: h) = look ⟨b, o, s⟩ h := by simp [look, hne]
theorem look_anchor (b o : Nat) (s : Option Nat) (w0 : World) (h : List Res) (hb : b < w0.heap.size) : look ⟨b, o, s⟩ (.anchor w0 [] :: h) = w0.cell? ⟨b, o, s⟩ := by simp [look, hb]
theorem look_anchor_ne (b o : Nat) (s : Option Nat) (w0 : World) (S : List Nat) (h : List Res) (hb : w0.heap.size ≤ b) : look ⟨b, o, s⟩ (.anchor w0 S :: h) = look ⟨b, o, s⟩ h := by
  have : ¬ b < w0.heap.size := by omega
  simp [look, this]
theorem look_sem (ad : Addr) (fp : Nat → Prop) (p : World → Prop) (st : Stable fp p) (h : List Res) : look ad (.sem fp p st :: h) = look ad h := rfl
theorem lookN_same (g o n : Nat) (t : TypeId) (cs : Array Value) (h : List Res) : lookN ⟨g, o, none⟩ n (.cells g t cs :: h) = if o + n ≤ cs.size then some (cs.extract o (o + n)) else none := by simp [lookN]
theorem lookN_ne (b g o n : Nat) (s : Option Nat) (t : TypeId) (cs : Array Value) (h : List Res) (hne : b ≠ g) : lookN ⟨b, o, s⟩ n (.cells g t cs :: h) = lookN ⟨b, o, s⟩ n h := by simp [lookN, hne]
/-- So many cells of a world. -/
def cellsN (w : World) (ad : Addr) (n : Nat) : Option (Array Value) := ((List.range n).mapM fun i => w.cell? (ad.add i)).map List.toArray
theorem lookN_anchor (b o n : Nat) (s : Option Nat) (w0 : World) (h : List Res) (hb : b < w0.heap.size) : lookN ⟨b, o, s⟩ n (.anchor w0 [] :: h) = cellsN w0 ⟨b, o, s⟩ n := by simp [lookN, hb, cellsN]
theorem lookN_anchor_ne (b o n : Nat) (s : Option Nat) (w0 : World) (S : List Nat) (h : List Res) (hb : w0.heap.size ≤ b) : lookN ⟨b, o, s⟩ n (.anchor w0 S :: h) = lookN ⟨b, o, s⟩ n h := by
  have : ¬ b < w0.heap.size := by omega
  simp [lookN, this]
theorem lookN_sem (ad : Addr) (n : Nat) (fp : Nat → Prop) (p : World → Prop) (st : Stable fp p) (h : List Res) : lookN ad n (.sem fp p st :: h) = lookN ad n h := rfl
theorem hsetN_nil (ad : Addr) (i : Nat) (h : List Res) : hsetN ad [] i h = some h := rfl
theorem hsetN_cons (b o i : Nat) (v : Value) (vs : List Value) (h : List Res) : hsetN ⟨b, o, none⟩ (v :: vs) i h = if one v = true then (hset ⟨b, o + i, none⟩ v h).bind (hsetN ⟨b, o, none⟩ vs (i + 1)) else none := by
  have : (Addr.add ⟨b, o, none⟩ i) = ⟨b, o + i, none⟩ := by unfold Addr.add; split <;> simp_all
  simp only [hsetN, this]
  rfl
theorem hset_same (g o : Nat) (v : Value) (t : TypeId) (cs : Array Value) (h : List Res) : hset ⟨g, o, none⟩ v (.cells g t cs :: h) = if o < cs.size then some (.cells g t (cs.setIfInBounds o v) :: h) else none := by simp [hset]
theorem ite_some {α : Type} (c : Prop) [Decidable c] (a : Option α) (hc : c) : (if c then a else none) = a := if_pos hc
theorem hset_ne (b g o : Nat) (s : Option Nat) (v : Value) (t : TypeId) (cs : Array Value) (h : List Res) (hne : b ≠ g) : hset ⟨b, o, s⟩ v (.cells g t cs :: h) = (hset ⟨b, o, s⟩ v h).map (.cells g t cs :: ·) := by simp [hset, hne]
theorem hset_anchor (b o : Nat) (s : Option Nat) (v : Value) (w0 : World) (S : List Nat) (h : List Res) (hb : w0.heap.size ≤ b) : hset ⟨b, o, s⟩ v (.anchor w0 S :: h) = (hset ⟨b, o, s⟩ v h).map (.anchor w0 S :: ·) := by
  have : ¬ b < w0.heap.size := by omega
  simp [hset, this]
theorem hset_sem (ad : Addr) (v : Value) (fp : Nat → Prop) (p : World → Prop) (st : Stable fp p) (h : List Res) : hset ad v (.sem fp p st :: h) = (hset ad v h).map (.sem fp p st :: ·) := rfl
theorem below_nil (g : Nat) : below g [] = True := rfl
theorem below_cons (g : Nat) (r : Res) (h : List Res) : below g (r :: h) = (r.under g ∧ below g h) := rfl
theorem under_cells (g g' : Nat) (t : TypeId) (cs : Array Value) : (Res.cells g' t cs).under g = (g' < g) := rfl
theorem under_anchor (g : Nat) (w0 : World) (S : List Nat) : (Res.anchor w0 S).under g = (w0.heap.size ≤ g) := rfl
theorem cells_int (k : IntKind) (n : Int) : cel (Value.int k n) = #[.int k n] := rfl
theorem cells_bool (b : Bool) : cel (Value.bool b) = #[.bool b] := rfl
theorem cells_str (l : List UInt8) : cel (str l) = #[str l] := rfl
theorem cells_byte (b : UInt8) : cel (byte b) = #[byte b] := rfl
theorem cells_ptr (a : Option Addr) : cel (Value.pointer a) = #[.pointer a] := rfl
theorem cells_slice (a : Option Addr) (n c : Nat) : cel (Value.slice a n c) = #[.slice a n c] := rfl
theorem cells_agg (cs : Array Value) : cel (Value.agg cs) = cs := rfl
theorem cells_func (f : Fn) (a b : Array Value) : cel (Value.func f a b) = #[.func f a b] := rfl
theorem cells_map (r : Option Nat) : cel (Value.map r) = #[.map r] := rfl
theorem one_int (k : IntKind) (n : Int) : one (Value.int k n) = true := rfl
theorem one_bool (b : Bool) : one (Value.bool b) = true := rfl
theorem one_str (l : List UInt8) : one (str l) = true := rfl
theorem one_byte (b : UInt8) : one (byte b) = true := rfl
theorem one_ptr (a : Option Addr) : one (Value.pointer a) = true := rfl
theorem one_slice (a : Option Addr) (n c : Nat) : one (Value.slice a n c) = true := rfl
theorem one_func (f : Fn) (a b : Array Value) : one (Value.func f a b) = true := rfl
theorem one_map (r : Option Nat) : one (Value.map r) = true := rfl


end

-- the end
def hresV (P : Program) : List ResultVar → Fr → List Res → Option (List Value)
  | [], _, _ => some []
  | .tmp t :: r, f, h => (hresV P r f h).map (f t :: ·)
  | .cell a t :: r, f, h => (loadK (ldk P t) (f a) h).bind fun v => (hresV P r f h).map (v :: ·)
theorem hres_eq {P : Program} {f : Fr} {h : List Res} : ∀ (rs : List ResultVar) (K : List Value → Prop), hres P rs f h K = wO (hresV P rs f h) K
  | [], K => by simp [hres, hresV, wO]
  | .tmp t :: r, K => by
    rw [hres, hres_eq r, hresV]
    cases hresV P r f h <;> simp [wO]
  | .cell a t :: r, K => by
    rw [hres, hload_eq, hresV]
    simp only [hres_eq r]
    cases loadK (ldk P t) (f a) h <;> cases hresV P r f h <;> simp [wO]
/-- The end of a function, waited for by QV. -/
def RE (o : Option (List Value)) (h : List Res) (QV : Value → List Res → Prop) : Prop := wO o fun vs => QV (oneOf vs) h
theorem RE_some (vs : List Value) (h : List Res) (QV : Value → List Res → Prop) : RE (some vs) h QV = QV (oneOf vs) h := by simp [RE, wO]
section
variable (P : Program) (rs : List ResultVar) (f : Fr) (h : List Res) (QV : Value → List Res → Prop)
theorem hend_normal : hend P rs QV .normal f h = RE (hresV P rs f h) h QV := hres_eq rs _
theorem hend_ret : hend P rs QV .ret f h = RE (hresV P rs f h) h QV := hres_eq rs _
theorem hresV_nil : hresV P [] f h = some [] := rfl
theorem hresV_tmp (t : Nat) : hresV P (.tmp t :: rs) f h = (hresV P rs f h).map (f t :: ·) := rfl
theorem hresV_cell (a : Nat) (t : TypeId) : hresV P (.cell a t :: rs) f h = (loadK (ldk P t) (f a) h).bind fun v => (hresV P rs f h).map (v :: ·) := rfl
end
theorem oneOf_one (v : Value) : oneOf [v] = v := rfl
theorem oneOf_nil : oneOf [] = .tuple #[] := rfl
theorem oneOf_two (a b : Value) (l : List Value) : oneOf (a :: b :: l) = .tuple (List.toArray (a :: b :: l)) := rfl

/-- A function's contract, out of its body, by the walk. -/
theorem does {P : Program} {k : FuncId} {fn : Func} {c : Code} {args : List Value} {w : World} {h : List Res} {φ : Value → World → Prop} {rs : List ResultVar}
    (hf : P.funcs[k]? = some fn) (hb : fn.body = some c) (hwf : cwf fn.ntmps c = true) (hn : decide (args.length ≤ fn.ntmps) = true) (hrs : fn.results.toList = rs) (he : enters P k)
    (hs : Sat w h) (hh : ∀ QV : Value → List Res → Prop, (∀ v h', (∀ w', Sat w' h' → φ v w') → QV v h') → R P c [] (init args) h (hend P rs QV)) : Does P k args.toArray w φ :=
  fn_of hf hb hwf (of_decide_eq_true hn) hrs he hs (hh _ fun _ _ hv => hv)

-- stops, and how to go on
/-- The number in a slot (for a loop's measure). -/
def ival : Value → Int
  | .int _ n => n
  | _ => 0
theorem ival_int (k : IntKind) (n : Int) : ival (.int k n) = n := rfl
theorem RC_intro {P : Program} {c : Bool} {a b : Code} {s : List Kn} {f : Fr} {h : List Res} {Q : Exit → Fr → List Res → Prop} (h1 : c = true → R P a s f h Q) (h2 : c = false → R P b s f h Q) : RC P (.bool c) a b s f h Q := by
  cases c
  · rw [RC_f]; exact h2 rfl
  · rw [RC_t]; exact h1 rfl
theorem RG_intro {P : Program} {c want : Bool} {op : Op} {ty : TypeId} {κ : Pt} {f : Fr} {h : List Res} {Q : Exit → Fr → List Res → Prop} (h1 : c = want → RO P op ty κ f h Q) (h2 : c = (!want) → RV P κ undef f h Q) : RG P (.bool c) want op ty κ f h Q := by
  cases c <;> cases want
  · rw [RG_ff]; exact h1 rfl
  · rw [RG_ft]; exact h2 rfl
  · rw [RG_tf]; exact h2 rfl
  · rw [RG_tt]; exact h1 rfl
theorem RNew_intro {P : Program} {t : TypeId} {cs : Array Value} {d : Option Nat} {ops rest : List Oper} {s : List Kn} {f : Fr} {h : List Res} {Q : Exit → Fr → List Res → Prop}
    (H : ∀ g, below g h → RL P ops rest s (put f d (.pointer (some ⟨g, 0, none⟩))) (.cells g t cs :: h) Q) : RNew P t cs ⟨d, ops, rest, s⟩ f h Q := H
theorem RCall_of {P : Program} {k : FuncId} {args : Array Value} {d : Option Nat} {ops rest : List Oper} {s : List Kn} {f : Fr} {h : List Res} {Q : Exit → Fr → List Res → Prop} {φ : Value → Prop}
    (c : ∀ w, Sat w h → Does P k args w fun v w' => φ v ∧ Ext [] w w') (hk : ∀ v, φ v → RL P ops rest s (put f d v) h Q) : RCall P k args ⟨d, ops, rest, s⟩ f h Q := hcall_of c hk
theorem RCall_eq {P : Program} {k : FuncId} {args : Array Value} {d : Option Nat} {ops rest : List Oper} {s : List Kn} {f : Fr} {h : List Res} {Q : Exit → Fr → List Res → Prop} {u : Value}
    (c : ∀ w, Does P k args w fun v w' => v = u ∧ Ext [] w w') (hk : RL P ops rest s (put f d u) h Q) : RCall P k args ⟨d, ops, rest, s⟩ f h Q := hcall_eq c hk
theorem RCall_any {P : Program} {k : FuncId} {args : Array Value} {d : Option Nat} {ops rest : List Oper} {s : List Kn} {f : Fr} {h : List Res} {Q : Exit → Fr → List Res → Prop}
    (c : ∀ w, Sat w h → Does P k args w fun v w' => ∃ h', Sat w' h' ∧ RL P ops rest s (put f d v) h' Q) : RCall P k args ⟨d, ops, rest, s⟩ f h Q := c
theorem RLoop_intro {P : Program} {c : Code} {s : List Kn} {f : Fr} {h : List Res} {Q : Exit → Fr → List Res → Prop} (I : Fr → List Res → Prop) (μ : Fr → List Res → Nat) (h0 : I f h)
    (hr : ∀ f h, I f h → ∀ Q' : Fr → List Res → Prop, (∀ f' h' h'', (∀ w, Sat w h' → Sat w h'') → I f' h'' → μ f' h'' < μ f h → Q' f' h') → R P c [] f h (gthen Q' (cont P s Q))) : RLoop P c s f h Q :=
  ⟨I, μ, fun _ hs => ⟨h, hs, h0⟩, fun f h hi => hr f h hi _ fun _ _ h'' hs hI hm w hw => ⟨h'', hs w hw, hI, hm⟩⟩
/-- The same, from a list that says more; and what goes round may be chosen at the world. -/
theorem RLoop_from {P : Program} {c : Code} {s : List Kn} {f : Fr} {h : List Res} {Q : Exit → Fr → List Res → Prop} (I : Fr → List Res → Prop) (μ : Fr → List Res → Nat) (h0 : ∀ w, Sat w h → ∃ h0, Sat w h0 ∧ I f h0)
    (hr : ∀ f h, I f h → ∀ Q' : Fr → List Res → Prop, (∀ f' h', (∀ w, Sat w h' → ∃ h'', Sat w h'' ∧ I f' h'' ∧ μ f' h'' < μ f h) → Q' f' h') → R P c [] f h (gthen Q' (cont P s Q))) : RLoop P c s f h Q :=
  ⟨I, μ, h0, fun f h hi => hr f h hi _ fun _ _ hh => hh⟩
section
variable (P : Program) (K : Fr → List Res → Prop) (s : List Kn) (f : Fr) (h : List Res) (Q : Exit → Fr → List Res → Prop)
theorem gthen_normal : gthen K (cont P s Q) .normal f h = K f h := rfl
theorem gthen_exit (i : Nat) : gthen K (cont P s Q) (.exit i) f h = RX P i s f h Q := rfl
theorem gthen_ret : gthen K (cont P s Q) .ret f h = Q .ret f h := RR_eq P s f h Q
end
theorem RRun_read {P : Program} {e : Sem Value} {d : Option Nat} {ops rest : List Oper} {s : List Kn} {f : Fr} {h : List Res} {Q : Exit → Fr → List Res → Prop} (v : Value) (hr : ∀ w, Sat w h → e.run P w = .ok v w) (hk : RL P ops rest s (put f d v) h Q) : RRun P e ⟨d, ops, rest, s⟩ f h Q :=
  hrun_read v hr hk
theorem RVo_pos {P : Program} {c : Prop} [Decidable c] {o : Option Value} {κ : Pt} {f : Fr} {h : List Res} {Q : Exit → Fr → List Res → Prop} (hc : c) (hk : RVo P o κ f h Q) : RVo P (if c then o else none) κ f h Q := by rw [if_pos hc]; exact hk

attribute [go_sem] ite_some Nat.mul_one List.setIfInBounds_toArray List.set_cons_zero List.set_cons_succ ival_int ev_tmp ev_const ev_func ev_global upd_apply put_some put_none init_nil init_zero init_succ str_eq
  R_skip R_region R_draw R_seq R_cond R_block R_loop R_exit R_scope R_label R_ret RC_t RC_f RN_nil RN_code RN_blk RN_scp RX_nil RX_code RX_blk RX_scp RR_eq RL_nil RL_cons RL_guard gv_zero gv_succ
  RV_eq RVo_some RHo_some RG_tt RG_ff RG_tf RG_ft RG_u RO_move RO_assign RO_pick RPick_t RPick_f RO_alloc RNewo_some RO_box RO_build RO_buildSlice loadK_one loadK_agg RO_load storeK_eq RO_store RO_nilCheck RNil_ptr RNil_func
  RO_binOp RB_int RB_str RB_bool RBb_eq RB_ptr RB_slice RB_agg RO_unOp RO_convert RConv_int RConv_str RConv_slice RCv_f convI_str convI_slice RO_makeFunc RO_makeMap RO_makeSlice RO_slice RO_fieldAddr RO_field RO_indexAddr RO_index RO_extract RExt_zero RExt_succ
  RO_lookup RO_mapUpdate RO_call RVal_func RO_len RO_min RO_max RO_append RO_copy RO_clear ikd_int
  intV_add intV_sub intV_mul intV_quo intV_rem intV_and intV_or intV_xor intV_andNot intV_eql intV_neq intV_lss intV_leq intV_gtr intV_geq intV_shl intV_shr wrap64 wrapu64
  strV_add strV_eql strV_neq boolV_eql boolV_neq nilV_eql nilV_neq pure_not pure_neg pure_min pure_max idxV_str idxV_arr addrV_slice addrV_arr sliV_lo sliV_hi sliV_both fldA_at fldV_at lenV_str lenV_slice lenV_arr
  look_same look_ne look_anchor look_anchor_ne look_sem lookN_same lookN_ne lookN_anchor lookN_anchor_ne lookN_sem hsetN_nil hsetN_cons hset_same hset_ne hset_anchor hset_sem
  cells_int cells_bool cells_str cells_byte cells_ptr cells_slice cells_agg cells_func cells_map one_int one_bool one_str one_byte one_ptr one_slice one_func one_map
  hend_normal hend_ret hresV_nil hresV_tmp hresV_cell RE_some oneOf_one oneOf_nil oneOf_two gthen_normal gthen_exit gthen_ret
  Nat.reduceAdd Nat.reduceMul Nat.zero_add Nat.add_zero List.map_toArray List.map_cons List.map_nil List.append_toArray List.nil_append List.append_nil List.cons_append Option.map_some Option.map_none Option.bind_some Option.bind_none
  List.getElem?_toArray List.getElem?_cons_zero List.getElem?_cons_succ List.getElem?_nil List.size_toArray List.length_cons List.length_nil Int.toNat_natCast true_and and_true
  Bool.not_true Bool.not_false decide_true decide_false Nat.reduceEqDiff List.toList_toArray Int.reduceToNat Int.reduceAdd Int.reduceSub Int.reduceMul Int.reduceNeg Int.reduceLT Int.reduceLE Int.reduceEq Nat.reduceSub Nat.reduceLT Nat.reduceLeDiff Bool.not_not
attribute [go_sem ↓] reduceIte
end H
end Go.Proofs.Ytldidoaagijnhaa
