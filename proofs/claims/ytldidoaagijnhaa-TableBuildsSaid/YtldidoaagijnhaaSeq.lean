/- Slices: bytes and texts, rows that grow. -/
import Derived.Test.YtldidoaagijnhaaVals
import Derived.Laws.AppendOwn
import Derived.Laws.OwnMore
import Derived.Laws.BytesString
namespace Go.Proofs.Ytldidoaagijnhaa
set_option linter.unusedSimpArgs false
set_option linter.unusedVariables false
namespace H
open Go

/-- A step that looks at less. -/
theorem RRun_from {P : Program} {e : Sem Value} {κ : Pt} {f : Fr} {h h' : List Res} {Q : Exit → Fr → List Res → Prop} (hh : ∀ w, Sat w h → Sat w h') (hr : RRun P e κ f h' Q) : RRun P e κ f h Q :=
  fun w hs => hr w (hh w hs)

/-- The rest of a step, known. -/
theorem RRun_step {P : Program} {e : Sem Value} {d : Option Nat} {ops rest : List Oper} {s : List Kn} {f : Fr} {h : List Res} {Q : Exit → Fr → List Res → Prop}
    (hr : ∀ w, Sat w h → ∃ v w' h', e.run P w = .ok v w' ∧ Sat w' h' ∧ RL P ops rest s (put f d v) h' Q) : RRun P e ⟨d, ops, rest, s⟩ f h Q := hr

/-- A slice type of bytes, a string type. -/
def bytesT (P : Program) (t e : TypeId) : Prop := P.underlying t = some (.slice e) ∧ P.underlying e = some (.int .u8)

theorem row_frozen (w : World) (cs : Array Value) (e : TypeId) : Row ((w.alloc (.cells cs e)).freeze ⟨w.heap.size, cs.size, none⟩ 1) w.heap.size e cs ∧ Ext [] w ((w.alloc (.cells cs e)).freeze ⟨w.heap.size, cs.size, none⟩ 1) ∧
    ((w.alloc (.cells cs e)).freeze ⟨w.heap.size, cs.size, none⟩ 1).heap.size = w.heap.size + 1 := by
  have hne : (w.alloc (.cells cs e)).heap[w.heap.size]? = some (.cells cs e (0, 0)) := heap_alloc_new w _
  have hsz : (w.alloc (.cells cs e)).heap.size = w.heap.size + 1 := by simp
  have hx := Ext.alloc w (.cells cs e)
  generalize w.alloc (.cells cs e) = w1 at hne hsz hx ⊢
  have hs1 : (w1.freeze ⟨w.heap.size, cs.size, none⟩ 1).heap.size = w1.heap.size := by simp [World.freeze]
  have hf : ∀ k, k ≠ w.heap.size → (w1.freeze ⟨w.heap.size, cs.size, none⟩ 1).heap[k]? = w1.heap[k]? := by
    intro k hk
    simp [World.freeze, Array.getElem?_modify, Ne.symm hk]
  refine ⟨⟨(cs.size, cs.size + 1), ?_, .inr (Nat.le_refl _)⟩, ?_, by rw [hs1, hsz]⟩
  · simp [World.freeze, Array.getElem?_modify, hne]
  · exact ⟨hx.os, hx.tape, hx.output, by rw [hs1]; exact hx.size, fun k hk hS => (hf k (by omega)).trans (hx.block k hk hS)⟩

theorem run_strBytes {P : Program} (w : World) {src dst e : TypeId} (hs : P.underlying src = some .string) (hd : bytesT P dst e) (l : List UInt8) :
    ∃ (sp : List Value) (w' : World), (convert src dst (str l)).run P w = .ok (.slice (some ⟨w.heap.size, 0, none⟩) l.length (l.length + sp.length)) w' ∧ Row w' w.heap.size e (l.map byte ++ sp).toArray ∧ Ext [] w w' ∧ w'.heap.size = w.heap.size + 1 := by
  refine ⟨List.replicate (grownCap w l.length 0 e - l.length) (.int .u8 0), ?_⟩
  have hge := grownCap_ge w l.length 0 e
  have hcap : l.length + (grownCap w l.length 0 e - l.length) = grownCap w l.length 0 e := by omega
  have hsz : (ByteArray.mk l.toArray).size = l.length := by simp [ByteArray.size]
  have hcs : (List.map (fun b => Value.int IntKind.u8 ↑(UInt8.toNat b)) l).toArray ++ Array.replicate (grownCap w l.length 0 e - l.length) (Value.int IntKind.u8 0) = (l.map byte ++ List.replicate (grownCap w l.length 0 e - l.length) (Value.int .u8 0)).toArray := by
    rw [← List.append_toArray, List.toArray_replicate]; rfl
  have hg : ∀ (q : Question) , q = .appendCap l.length 0 e → q.cut (w.tape w.drawn q) = grownCap w l.length 0 e := by rintro q rfl; rfl
  generalize hcse : (l.map byte ++ List.replicate (grownCap w l.length 0 e - l.length) (Value.int .u8 0)).toArray = cs at hcs ⊢
  have hfz := row_frozen w.drew cs e
  rw [show w.drew.heap.size = w.heap.size from rfl] at hfz
  have hsh : (w.drew.alloc (.cells cs e)).shape? w.heap.size = some (e, cs.size) := by
    have : (w.drew.alloc (.cells cs e)).heap[w.heap.size]? = some (.cells cs e (0, 0)) := heap_alloc_new w.drew _
    unfold World.shape?; rw [this]
  refine ⟨(w.drew.alloc (.cells cs e)).freeze ⟨w.heap.size, cs.size, none⟩ 1, ?_, hfz.1, (Ext.drew w).trans hfz.2.1, hfz.2.2⟩
  simp [convert, run_underlying hs, run_underlying hd.1, run_underlying hd.2, Conv.stringToBytes, str, hsz, Question.forced, newRow, markStringish, hg, hcs, hsh, hcap]

/-- []byte(s): a new row. -/
theorem RRun_bytes {P : Program} {src dst e : TypeId} {d : Option Nat} {ops rest : List Oper} {s : List Kn} {f : Fr} {h : List Res} {Q : Exit → Fr → List Res → Prop} {l : List UInt8} (hs : P.underlying src = some .string) (hd : bytesT P dst e)
    (hk : ∀ g sp, below g h → RL P ops rest s (put f d (.slice (some ⟨g, 0, none⟩) l.length (l.length + sp.length))) (.cells g e (l.map byte ++ sp).toArray :: h) Q) :
    RRun P (convert src dst (str l)) ⟨d, ops, rest, s⟩ f h Q := by
  intro w hw
  obtain ⟨sp, w', h1, h2, h3, h4⟩ := run_strBytes (P := P) w hs hd l
  exact ⟨_, w', .cells w.heap.size e (l.map byte ++ sp).toArray :: h, h1, ⟨h2, fun k hk => by cases hk; omega, fun r' hr' k hk hk' => by cases hk; exact absurd (hw.lt r' hr' _ hk') (Nat.lt_irrefl _), hw.ext h3⟩, hk w.heap.size sp hw.below⟩

theorem foldl_push (l : List UInt8) (b : ByteArray) : (l.map fun x : UInt8 => (x.toNat : Int)).foldl (fun r n => r.push (UInt8.ofNat n.toNat)) b = ⟨b.data ++ l.toArray⟩ := by
  induction l generalizing b with
  | nil => simp
  | cons x l ih =>
    rw [List.map_cons, List.foldl_cons, ih]
    simp [ByteArray.push]

theorem run_bytesStr {P : Program} (w : World) {src dst e : TypeId} (hs : bytesT P src e) (hd : P.underlying dst = some .string) (ad : Addr) (n c : Nat) (l : List UInt8) (hn : l.length = n) (hc : ∀ i (hi : i < l.length), w.cell? (ad.add i) = some (byte l[i])) :
    (convert src dst (.slice (some ad) n c)).run P w = .ok (str l) w := by
  rw [run_convert_bytes_string w src dst e (some ad) n c hs.1 hs.2 hd]
  subst hn
  have hl := run_loadCells_list (P := P) w ad (l.map byte) (fun j v hv => by
    rw [List.getElem?_map, Option.map_eq_some_iff] at hv
    obtain ⟨b, hb, rfl⟩ := hv
    obtain ⟨hj, rfl⟩ := List.getElem?_eq_some_iff.1 hb
    exact hc j hj)
  rw [List.length_map] at hl
  rw [run_bytesToString w ad l.length c (l.map fun x : UInt8 => (x.toNat : Int)) (by rw [hl, List.map_map]; rfl), foldl_push]
  unfold str
  congr 2
  simp

theorem add_at (g o i : Nat) : (⟨g, o, none⟩ : Addr).add i = ⟨g, o + i, none⟩ := by unfold Addr.add; split <;> simp_all

/-- string(b). -/
theorem RRun_str {P : Program} {src dst e : TypeId} {d : Option Nat} {ops rest : List Oper} {s : List Kn} {f : Fr} {h : List Res} {Q : Exit → Fr → List Res → Prop} {g o n c : Nat} (l : List UInt8) (hs : bytesT P src e) (hd : P.underlying dst = some .string)
    (hn : l.length = n) (hc : ∀ i (hi : i < l.length), look ⟨g, o + i, none⟩ h = some (byte l[i])) (hk : RL P ops rest s (put f d (str l)) h Q) : RRun P (convert src dst (.slice (some ⟨g, o, none⟩) n c)) ⟨d, ops, rest, s⟩ f h Q :=
  RRun_read (str l) (fun w hw => run_bytesStr w hs hd _ n c l hn fun i hi => by rw [add_at]; exact look_sound hw (hc i hi)) hk
theorem RRun_str_nil {P : Program} {src dst e : TypeId} {d : Option Nat} {ops rest : List Oper} {s : List Kn} {f : Fr} {h : List Res} {Q : Exit → Fr → List Res → Prop} (hs : bytesT P src e) (hd : P.underlying dst = some .string)
    (hk : RL P ops rest s (put f d (str [])) h Q) : RRun P (convert src dst (.slice none 0 0)) ⟨d, ops, rest, s⟩ f h Q :=
  RRun_read (str []) (fun w _ => by rw [run_convert_bytes_string w src dst e none 0 0 hs.1 hs.2 hd]; rfl) hk
-- a row of bytes
theorem brow_get (l : List UInt8) (sp : List Value) (k : Nat) (hk : k < l.length) : (l.map byte ++ sp)[k]? = some (byte (l.getD k 0)) := by
  rw [List.getElem?_append_left (by simpa using hk), List.getElem?_map, List.getD_eq_getElem?_getD, List.getElem?_eq_getElem hk]; rfl
theorem brow_set (l : List UInt8) (sp : List Value) (k : Nat) (b : UInt8) (hk : k < l.length) : (l.map byte ++ sp).set k (byte b) = (l.set k b).map byte ++ sp := by
  rw [List.set_append_left _ _ (by simpa using hk), List.map_set]
theorem brow_len (l : List UInt8) (sp : List Value) : (l.map byte ++ sp).length = l.length + sp.length := by simp
theorem RRun_str_row {P : Program} {src dst e : TypeId} {d : Option Nat} {ops rest : List Oper} {s : List Kn} {f : Fr} {h : List Res} {Q : Exit → Fr → List Res → Prop} {g n c : Nat} {t : TypeId} {l : List UInt8} {sp : List Value} (hs : bytesT P src e) (hd : P.underlying dst = some .string)
    (hn : l.length = n) (hk : RL P ops rest s (put f d (str l)) (.cells g t (l.map byte ++ sp).toArray :: h) Q) : RRun P (convert src dst (.slice (some ⟨g, 0, none⟩) n c)) ⟨d, ops, rest, s⟩ f (.cells g t (l.map byte ++ sp).toArray :: h) Q :=
  RRun_str l hs hd hn (fun i hi => by
    rw [look_same, Nat.zero_add, List.getElem?_toArray, brow_get l sp i hi, List.getD_eq_getElem?_getD, List.getElem?_eq_getElem hi]; rfl) hk
theorem brow_get0 (l : List UInt8) (k : Nat) (hk : k < l.length) : (l.map byte)[k]? = some (byte (l.getD k 0)) := by
  have := brow_get l [] k hk; rwa [List.append_nil] at this
theorem brow_set0 (l : List UInt8) (k : Nat) (b : UInt8) (hk : k < l.length) : (l.map byte).set k (byte b) = (l.set k b).map byte := by
  have := brow_set l [] k b hk; rwa [List.append_nil, List.append_nil] at this
theorem brow_len0 (l : List UInt8) : (l.map byte).length = l.length := by simp
theorem RRun_str_row0 {P : Program} {src dst e : TypeId} {d : Option Nat} {ops rest : List Oper} {s : List Kn} {f : Fr} {h : List Res} {Q : Exit → Fr → List Res → Prop} {g n c : Nat} {t : TypeId} {l : List UInt8} (hs : bytesT P src e) (hd : P.underlying dst = some .string)
    (hn : l.length = n) (hk : RL P ops rest s (put f d (str l)) (.cells g t (l.map byte).toArray :: h) Q) : RRun P (convert src dst (.slice (some ⟨g, 0, none⟩) n c)) ⟨d, ops, rest, s⟩ f (.cells g t (l.map byte).toArray :: h) Q := by
  have := RRun_str_row (P := P) (src := src) (dst := dst) (e := e) (d := d) (ops := ops) (rest := rest) (s := s) (f := f) (h := h) (Q := Q) (g := g) (n := n) (c := c) (t := t) (l := l) (sp := []) hs hd hn
  rw [List.append_nil] at this
  exact this hk
def shl8 (a : UInt8) (n : Nat) : UInt8 := ⟨a.toBitVec <<< n⟩
def shr8 (a : UInt8) (n : Nat) : UInt8 := ⟨a.toBitVec >>> n⟩
theorem RB_u8_shl (P : Program) (κ : Pt) (f : Fr) (h : List Res) (Q : Exit → Fr → List Res → Prop) (t : TypeId) (x y : Operand) (a : UInt8) (k : IntKind) (n : Int) (h0 : 0 ≤ n) (h1 : n ≤ 8) : RB P .shl t x y (byte a) (.int k n) κ f h Q = RV P κ (byte (shl8 a n.toNat)) f h Q := by
  unfold byte
  rw [RB_int, intV_shl _ _ _ _ h0, RVo_some]
  congr 2
  have hm : min n.toNat IntKind.u8.bits = n.toNat := by show min n.toNat 8 = n.toNat; omega
  rw [hm, IntKind.wrap_u8]
  show (a.toNat : Int) * 2 ^ n.toNat % 256 = ((a.toBitVec <<< n.toNat).toNat : Int)
  rw [BitVec.toNat_shiftLeft, Nat.shiftLeft_eq, Int.natCast_emod, Int.natCast_mul, Int.natCast_pow]
  rfl
theorem RB_u8_shr (P : Program) (κ : Pt) (f : Fr) (h : List Res) (Q : Exit → Fr → List Res → Prop) (t : TypeId) (x y : Operand) (a : UInt8) (k : IntKind) (n : Int) (h0 : 0 ≤ n) (h1 : n ≤ 8) : RB P .shr t x y (byte a) (.int k n) κ f h Q = RV P κ (byte (shr8 a n.toNat)) f h Q := by
  unfold byte
  rw [RB_int, intV_shr _ _ _ _ h0, RVo_some]
  congr 2
  have hm : min n.toNat IntKind.u8.bits = n.toNat := by show min n.toNat 8 = n.toNat; omega
  rw [hm]
  show (a.toNat : Int).fdiv (2 ^ n.toNat) = ((a.toBitVec >>> n.toNat).toNat : Int)
  rw [BitVec.toNat_ushiftRight, Nat.shiftRight_eq_div_pow, Int.fdiv_eq_ediv_of_nonneg _ (Int.pow_nonneg (by decide)), Int.natCast_ediv, Int.natCast_pow]
  rfl
attribute [go_sem] brow_len brow_len0 RB_u8_shl RB_u8_shr
end H
end Go.Proofs.Ytldidoaagijnhaa
