/- pages: the walks: what reads alone; files opened; files that are not there. -/
import Derived.Test.YtldidoaagijnhaaPgB
namespace Go.Proofs.Ytldidoaagijnhaa
set_option linter.unusedSimpArgs false
set_option linter.unusedVariables false
open H
/-- A row of bytes, as it reads. -/
structure Pg.Has (w : World) (gb : Nat) (L : List UInt8) : Prop where
  lt : gb < w.heap.size
  at_ : ∀ i (hi : i < L.length), w.cell? ⟨gb, i, none⟩ = some (byte L[i])
theorem Pg.has_of {w : World} {h : List Res} {gb : Nat} {t : TypeId} {L : List UInt8} {sp : List Value} (hs : Sat w h) (hm : Res.cells gb t (L.map byte ++ sp).toArray ∈ h) : Pg.Has w gb L := by
  obtain ⟨hr, hl⟩ := hs.row hm
  refine ⟨hl, fun i hi => ?_⟩
  rw [cell_cells hr rfl, if_pos rfl]
  simp only [List.getElem?_toArray]
  rw [List.getElem?_append_left (by rw [List.length_map]; exact hi), List.getElem?_map, List.getElem?_eq_getElem hi]
  rfl
theorem Pg.Has.keep {w w' : World} {gb : Nat} {L : List UInt8} (h : Pg.Has w gb L) (hx : Ext [] w w') : Pg.Has w' gb L := by
  have hb : w'.heap[gb]? = w.heap[gb]? := hx.block gb h.lt (by simp)
  exact ⟨Nat.lt_of_lt_of_le h.lt hx.size, fun i hi => by rw [← h.at_ i hi]; exact cell_of_block hb⟩
theorem run_text {P : Program} {w : World} {gb c : Nat} {L : List UInt8} (h : Pg.Has w gb L) {src dst e : TypeId} (hs : bytesT P src e) (hd : P.underlying dst = some .string) : (convert src dst (.slice (some ⟨gb, 0, none⟩) L.length c)).run P w = .ok (str L) w :=
  run_bytesStr w hs hd _ L.length c L rfl fun i hi => by rw [add_at, Nat.zero_add]; exact h.at_ i hi
theorem pages_text (gf gb : Nat) (L : List UInt8) (c : Nat) (hl : 256 ≤ L.length) (hd : List UInt8) (r : Int) (w : World) (ha : Pg.At w gf (.slice (some ⟨gb, 0, none⟩) L.length c) hd r) (hb : Pg.Has w gb L) : Does Try.prog 12 #[.pointer (some ⟨gf, 0, none⟩)] w fun v w' => v = str L ∧ Ext [] w w' := by
  refine does (args := [.pointer (some ⟨gf, 0, none⟩)]) Try.func12 rfl (by kernel_rfl) (by kernel_rfl) rfl ent_12 (Sat.start w []) ?_; intro QV hQ
  have hlt := ha.lt
  have hb0 := ha.b
  simp -implicitDefEqProofs (disch := omega) only [go_sem]
  refine RCall_eqS (fun w1 hs => pages_there gf (some ⟨gb, 0, none⟩) L.length c hd r w1 (ha.keep (hs.mem (.anchor w []) (by simp)))) ?_
  simp -implicitDefEqProofs (disch := omega) only [go_sem, decide_eq_true hl, hb0]
  refine RRun_read (str L) (fun w1 hs => run_text (hb.keep (hs.mem (.anchor w []) (by simp))) bytes_t Try.underlying9) ?_
  simp -implicitDefEqProofs (disch := omega) only [go_sem]
  exact hQ _ _ fun w' hs => ⟨rfl, hs.anchor (by simp)⟩

theorem pages_head (gf : Nat) (a : Option Addr) (n c : Nat) (hl : 256 ≤ n) (hd : List UInt8) (r : Int) (w : World) (ha : Pg.At w gf (.slice a n c) hd r) : Does Try.prog 20 #[.pointer (some ⟨gf, 0, none⟩)] w fun v w' => v = str hd ∧ Ext [] w w' := by
  refine does (args := [.pointer (some ⟨gf, 0, none⟩)]) Try.func20 rfl (by kernel_rfl) (by kernel_rfl) rfl ent_20 (Sat.start w []) ?_; intro QV hQ
  have hlt := ha.lt
  have hb0 := ha.h
  simp -implicitDefEqProofs (disch := omega) only [go_sem]
  refine RCall_eqS (fun w1 hs => pages_there gf a n c hd r w1 (ha.keep (hs.mem (.anchor w []) (by simp)))) ?_
  simp -implicitDefEqProofs (disch := omega) only [go_sem, decide_eq_true hl, hb0]
  exact hQ _ _ fun w' hs => ⟨rfl, hs.anchor (by simp)⟩

theorem pages_reads (gf : Nat) (a : Option Addr) (n c : Nat) (hl : 256 ≤ n) (hd : List UInt8) (r : Int) (w : World) (ha : Pg.At w gf (.slice a n c) hd r) : Does Try.prog 22 #[.pointer (some ⟨gf, 0, none⟩)] w fun v w' => v = .int .i64 r ∧ Ext [] w w' := by
  refine does (args := [.pointer (some ⟨gf, 0, none⟩)]) Try.func22 rfl (by kernel_rfl) (by kernel_rfl) rfl ent_22 (Sat.start w []) ?_; intro QV hQ
  have hlt := ha.lt
  have hb0 := ha.r
  simp -implicitDefEqProofs (disch := omega) only [go_sem]
  refine RCall_eqS (fun w1 hs => pages_there gf a n c hd r w1 (ha.keep (hs.mem (.anchor w []) (by simp)))) ?_
  simp -implicitDefEqProofs (disch := omega) only [go_sem, decide_eq_true hl, hb0]
  exact hQ _ _ fun w' hs => ⟨rfl, hs.anchor (by simp)⟩

theorem pages_count (gf : Nat) (a : Option Addr) (n c : Nat) (hl : 256 ≤ n) (hn : n ≤ 9223372036854775807) (hd : List UInt8) (r : Int) (w : World) (ha : Pg.At w gf (.slice a n c) hd r) : Does Try.prog 21 #[.pointer (some ⟨gf, 0, none⟩)] w fun v w' => v = .int .i64 ((n / 256 : Nat) : Int) ∧ Ext [] w w' := by
  refine does (args := [.pointer (some ⟨gf, 0, none⟩)]) Try.func21 rfl (by kernel_rfl) (by kernel_rfl) rfl ent_21 (Sat.start w []) ?_; intro QV hQ
  simp -implicitDefEqProofs (disch := omega) only [go_sem]
  refine RCall_eqS (fun w1 hs => pages_there gf a n c hd r w1 (ha.keep (hs.mem (.anchor w []) (by simp)))) ?_
  simp -implicitDefEqProofs (disch := omega) only [go_sem, decide_eq_true hl]
  refine RCall_eqS (fun w1 hs => pages_pages gf a n c hn hd r w1 (ha.keep (hs.mem (.anchor w []) (by simp)))) ?_
  simp -implicitDefEqProofs (disch := omega) only [go_sem]
  exact hQ _ _ fun w' hs => ⟨rfl, hs.anchor (by simp)⟩
/-- A file that is not there. -/
def Pg.No (w : World) (p : Value) : Prop := ∀ w1, Ext [] w w1 → Does Try.prog 39 #[p] w1 fun v w' => v = .bool false ∧ Ext [] w1 w'
theorem Pg.No.nil (w : World) : Pg.No w (.pointer none) := fun w1 _ => pages_there_nil w1
theorem Pg.No.zero {w : World} {gf : Nat} {hd : List UInt8} {r : Int} (ha : Pg.At w gf (.slice none 0 0) hd r) : Pg.No w (.pointer (some ⟨gf, 0, none⟩)) := fun w1 hx => by
  have := pages_there gf none 0 0 hd r w1 (ha.keep hx)
  rw [decide_eq_false (by omega)] at this
  exact this
theorem Pg.No.keep {w w' : World} {p : Value} (h : Pg.No w p) (hx : Ext [] w w') : Pg.No w' p := fun w1 hx1 => h w1 (hx.trans hx1)

theorem no_add (p : Value) (s : List UInt8) (w : World) (hp : Pg.No w p) : Does Try.prog 11 #[p, str s] w fun v w' => v = .tuple #[.int .i64 0, .int .i64 25] ∧ Ext [] w w' := by
  refine does (args := [p, str s]) Try.func11 rfl (by kernel_rfl) (by kernel_rfl) rfl ent_11 (Sat.start w []) ?_; intro QV hQ
  simp -implicitDefEqProofs (disch := omega) only [go_sem]
  refine RCall_eqS (fun w1 hs => hp w1 (hs.mem (.anchor w []) (by simp))) ?_
  simp -implicitDefEqProofs (disch := omega) only [go_sem]
  exact hQ _ _ fun w' hs => ⟨rfl, hs.anchor (by simp)⟩

theorem no_read (p : Value) (i : Int) (w : World) (hp : Pg.No w p) : Does Try.prog 17 #[p, .int .i64 i] w fun v w' => v = .tuple #[str [], .int .i64 25] ∧ Ext [] w w' := by
  refine does (args := [p, .int .i64 i]) Try.func17 rfl (by kernel_rfl) (by kernel_rfl) rfl ent_17 (Sat.start w []) ?_; intro QV hQ
  simp -implicitDefEqProofs (disch := omega) only [go_sem]
  refine RCall_eqS (fun w1 hs => hp w1 (hs.mem (.anchor w []) (by simp))) ?_
  simp -implicitDefEqProofs (disch := omega) only [go_sem]
  exact hQ _ _ fun w' hs => ⟨rfl, hs.anchor (by simp)⟩

theorem no_write (p : Value) (i : Int) (s : List UInt8) (w : World) (hp : Pg.No w p) : Does Try.prog 35 #[p, .int .i64 i, str s] w fun v w' => v = .int .i64 25 ∧ Ext [] w w' := by
  refine does (args := [p, .int .i64 i, str s]) Try.func35 rfl (by kernel_rfl) (by kernel_rfl) rfl ent_35 (Sat.start w []) ?_; intro QV hQ
  simp -implicitDefEqProofs (disch := omega) only [go_sem]
  refine RCall_eqS (fun w1 hs => hp w1 (hs.mem (.anchor w []) (by simp))) ?_
  simp -implicitDefEqProofs (disch := omega) only [go_sem]
  exact hQ _ _ fun w' hs => ⟨rfl, hs.anchor (by simp)⟩

theorem no_sethead (p : Value) (s : List UInt8) (w : World) (hp : Pg.No w p) : Does Try.prog 36 #[p, str s] w fun v w' => v = .int .i64 25 ∧ Ext [] w w' := by
  refine does (args := [p, str s]) Try.func36 rfl (by kernel_rfl) (by kernel_rfl) rfl ent_36 (Sat.start w []) ?_; intro QV hQ
  simp -implicitDefEqProofs (disch := omega) only [go_sem]
  refine RCall_eqS (fun w1 hs => hp w1 (hs.mem (.anchor w []) (by simp))) ?_
  simp -implicitDefEqProofs (disch := omega) only [go_sem]
  exact hQ _ _ fun w' hs => ⟨rfl, hs.anchor (by simp)⟩

theorem no_head (p : Value)  (w : World) (hp : Pg.No w p) : Does Try.prog 20 #[p] w fun v w' => v = str [] ∧ Ext [] w w' := by
  refine does (args := [p]) Try.func20 rfl (by kernel_rfl) (by kernel_rfl) rfl ent_20 (Sat.start w []) ?_; intro QV hQ
  simp -implicitDefEqProofs (disch := omega) only [go_sem]
  refine RCall_eqS (fun w1 hs => hp w1 (hs.mem (.anchor w []) (by simp))) ?_
  simp -implicitDefEqProofs (disch := omega) only [go_sem]
  exact hQ _ _ fun w' hs => ⟨rfl, hs.anchor (by simp)⟩

theorem no_pages (p : Value)  (w : World) (hp : Pg.No w p) : Does Try.prog 21 #[p] w fun v w' => v = .int .i64 0 ∧ Ext [] w w' := by
  refine does (args := [p]) Try.func21 rfl (by kernel_rfl) (by kernel_rfl) rfl ent_21 (Sat.start w []) ?_; intro QV hQ
  simp -implicitDefEqProofs (disch := omega) only [go_sem]
  refine RCall_eqS (fun w1 hs => hp w1 (hs.mem (.anchor w []) (by simp))) ?_
  simp -implicitDefEqProofs (disch := omega) only [go_sem]
  exact hQ _ _ fun w' hs => ⟨rfl, hs.anchor (by simp)⟩

theorem no_reads (p : Value)  (w : World) (hp : Pg.No w p) : Does Try.prog 22 #[p] w fun v w' => v = .int .i64 0 ∧ Ext [] w w' := by
  refine does (args := [p]) Try.func22 rfl (by kernel_rfl) (by kernel_rfl) rfl ent_22 (Sat.start w []) ?_; intro QV hQ
  simp -implicitDefEqProofs (disch := omega) only [go_sem]
  refine RCall_eqS (fun w1 hs => hp w1 (hs.mem (.anchor w []) (by simp))) ?_
  simp -implicitDefEqProofs (disch := omega) only [go_sem]
  exact hQ _ _ fun w' hs => ⟨rfl, hs.anchor (by simp)⟩

theorem no_text (p : Value)  (w : World) (hp : Pg.No w p) : Does Try.prog 12 #[p] w fun v w' => v = str [] ∧ Ext [] w w' := by
  refine does (args := [p]) Try.func12 rfl (by kernel_rfl) (by kernel_rfl) rfl ent_12 (Sat.start w []) ?_; intro QV hQ
  simp -implicitDefEqProofs (disch := omega) only [go_sem]
  refine RCall_eqS (fun w1 hs => hp w1 (hs.mem (.anchor w []) (by simp))) ?_
  simp -implicitDefEqProofs (disch := omega) only [go_sem]
  exact hQ _ _ fun w' hs => ⟨rfl, hs.anchor (by simp)⟩

theorem no_copy (p : Value)  (w : World) (hp : Pg.No w p) : Does Try.prog 37 #[p] w fun v w' => v = .pointer none ∧ Ext [] w w' := by
  refine does (args := [p]) Try.func37 rfl (by kernel_rfl) (by kernel_rfl) rfl ent_37 (Sat.start w []) ?_; intro QV hQ
  simp -implicitDefEqProofs (disch := omega) only [go_sem]
  refine RCall_eqS (fun w1 hs => hp w1 (hs.mem (.anchor w []) (by simp))) ?_
  simp -implicitDefEqProofs (disch := omega) only [go_sem]
  exact hQ _ _ fun w' hs => ⟨rfl, hs.anchor (by simp)⟩

theorem next_ok (s : List UInt8) (a : Int) (h : (Vint.next s a).2.2 = 0) : ∃ m t : Nat, Vint.get s a = ((m : Int), (t : Int), 0) ∧ t + m ≤ s.length ∧ 0 ≤ a ∧ a < t ∧ Vint.next s a = ((s.drop t).take m, ((t + m : Nat) : Int), 0) := by
  unfold Vint.next at h ⊢
  split at h
  · rename_i h0
    rw [if_pos h0]
    obtain ⟨m, t, e, h1, h2, h3, h4, h5⟩ := Vint.get_ok s a h0
    rw [e] at h ⊢
    simp only at h ⊢
    split at h
    · exact absurd h (by decide)
    · rename_i h6
      refine ⟨m, t, rfl, by omega, h2, h3, ?_⟩
      rw [if_neg h6]
      simp
  · exact absurd h (by simpa using ‹_›)
theorem allz_step {s : List UInt8} {T i : Nat} (hT : T ≤ i) (hi : i < s.length) : Pg.allz ((s.take (i + 1)).drop T) = (Pg.allz ((s.take i).drop T) && (s.getD i 0 == 0)) := by
  rw [List.take_add_one, List.getElem?_eq_getElem hi, List.drop_append_of_le_length (by rw [List.length_take]; omega)]
  unfold Pg.allz
  rw [List.all_append, List.getD_eq_getElem?_getD, List.getElem?_eq_getElem hi]
  simp
theorem allz_not {s : List UInt8} {T i : Nat} (hT : T ≤ i) (hi : i < 252) (hl : 252 ≤ s.length) (h : s.getD i 0 ≠ 0) : Pg.allz ((s.take 252).drop T) = false := by
  unfold Pg.allz
  rw [List.all_eq_false]
  refine ⟨s.getD i 0, ?_, by simpa using h⟩
  rw [List.getD_eq_getElem?_getD, List.getElem?_eq_getElem (by omega)]
  simp only [Option.getD_some]
  refine List.mem_iff_getElem.2 ⟨i - T, by rw [List.length_drop, List.length_take]; omega, ?_⟩
  rw [List.getElem_drop, List.getElem_take]
  congr 1; omega
def Pg.hdV (o : Option (List UInt8)) : Value := match o with | some h => .tuple #[str h, .bool true] | none => .tuple #[str [], .bool false]
set_option maxRecDepth 20000 in
set_option maxHeartbeats 4000000 in
theorem pages_headed (s : List UInt8) (hl : 252 ≤ s.length) (hsm : s.length ≤ 9223372036854775807) (w : World) : Does Try.prog 44 #[str s] w fun v w' => v = Pg.hdV (Pg.headed s) ∧ Ext [] w w' := by
  refine does (args := [str s]) Try.func44 rfl (by kernel_rfl) (by kernel_rfl) rfl ent_44 (Sat.start w []) ?_; intro QV hQ
  have l1 : (s.take 252).length = 252 := by rw [List.length_take]; omega
  unfold Pg.headed at hQ
  simp -implicitDefEqProofs (disch := omega) only [go_sem, Int.reduceToNat]
  refine RCall_eq (vint_next (s.take 252) (by omega) 8 (by omega)) ?_
  by_cases h0 : (Vint.next (s.take 252) 8).2.2 = 0
  rotate_left
  · rw [if_neg (fun h => h0 h.1)] at hQ
    simp -implicitDefEqProofs (disch := omega) only [go_sem, decide_eq_false h0]
    exact hQ _ _ fun w' hs => ⟨rfl, hs.anchor (by simp)⟩
  obtain ⟨m, t, he, htm, _, h8, hx⟩ := next_ok _ _ h0
  rw [hx] at hQ ⊢
  simp only [Int.toNat_natCast, true_and] at hQ
  rw [l1] at htm
  have hlen : (((s.take 252).drop t).take m).length = m := by rw [List.length_take, List.length_drop, l1]; omega
  by_cases h2 : m ≤ 200
  rotate_left
  · rw [if_neg (fun h => h2 (by rw [hlen] at h; exact h.1))] at hQ
    have k : decide ((200 : Int) < (m : Int)) = true := decide_eq_true (by omega)
    simp -implicitDefEqProofs (disch := omega) only [go_sem, decide_true, hlen, k]
    exact hQ _ _ fun w' hs => ⟨rfl, hs.anchor (by simp)⟩
  have k : decide ((200 : Int) < (m : Int)) = false := decide_eq_false (by omega)
  generalize ((s.take 252).drop t).take m = hd at *
  obtain ⟨T, hT⟩ : ∃ T, T = t + m := ⟨_, rfl⟩
  rw [← hT] at hQ ⊢
  simp -implicitDefEqProofs (disch := omega) only [go_sem, decide_true, hlen, k]
  refine RLoop_intro (fun f h => ∃ i : Nat, T ≤ i ∧ i ≤ 252 ∧ Pg.allz ((s.take i).drop T) = true ∧ f 0 = str s ∧ f 4 = str hd ∧ f 7 = .int .i64 (i : Int) ∧ h = [.anchor w []]) (fun f _ => (252 - ival (f 7)).toNat) ?_ ?_
  · refine ⟨T, by omega, by omega, ?_, by (first | (simp -implicitDefEqProofs (disch := omega) only [go_sem]; done) | (simp -implicitDefEqProofs (disch := omega) only [go_sem]; rfl)), by (first | (simp -implicitDefEqProofs (disch := omega) only [go_sem]; done) | (simp -implicitDefEqProofs (disch := omega) only [go_sem]; rfl)), by (first | (simp -implicitDefEqProofs (disch := omega) only [go_sem]; done) | (simp -implicitDefEqProofs (disch := omega) only [go_sem]; rfl)), rfl⟩
    rw [List.drop_eq_nil_of_le (by rw [List.length_take]; omega)]; rfl
  rintro f h ⟨i, hTi, hi, hz, e0, e4, e7, rfl⟩ Q' hQ'
  by_cases hlt : i < 252
  · have k1 : decide ((i : Int) < 252) = true := decide_eq_true (by omega)
    simp -implicitDefEqProofs (disch := omega) only [go_sem, e0, e4, e7, k1]
    by_cases hb : s.getD i 0 = 0
    · simp -implicitDefEqProofs (disch := omega) only [go_sem, e0, e4, e7, decide_eq_true hb]
      refine hQ' _ _ _ (fun _ h => h) ⟨i + 1, by omega, by omega, by rw [allz_step hTi (by omega), hz, hb]; rfl, by (first | (simp -implicitDefEqProofs (disch := omega) only [go_sem, e0, e4, e7]; done) | (simp -implicitDefEqProofs (disch := omega) only [go_sem, e0, e4, e7]; rfl)), by (first | (simp -implicitDefEqProofs (disch := omega) only [go_sem, e0, e4, e7]; done) | (simp -implicitDefEqProofs (disch := omega) only [go_sem, e0, e4, e7]; rfl)), by (first | (simp -implicitDefEqProofs (disch := omega) only [go_sem, e0, e4, e7]; done) | (simp -implicitDefEqProofs (disch := omega) only [go_sem, e0, e4, e7]; rfl)), rfl⟩ ?_
      simp -implicitDefEqProofs (disch := omega) only [go_sem, e0, e4, e7]; omega
    · rw [if_neg (fun h => by rw [allz_not hTi hlt hl hb] at h; exact absurd h.2 (by simp))] at hQ
      simp -implicitDefEqProofs (disch := omega) only [go_sem, e0, e4, e7, decide_eq_false hb]
      exact hQ _ _ fun w' hs => ⟨rfl, hs.anchor (by simp)⟩
  · have k1 : decide ((i : Int) < 252) = false := decide_eq_false (by omega)
    have : i = 252 := by omega
    subst this
    rw [if_pos ⟨by omega, hz⟩] at hQ
    simp -implicitDefEqProofs (disch := omega) only [go_sem, e0, e4, e7, k1]
    exact hQ _ _ fun w' hs => ⟨rfl, hs.anchor (by simp)⟩
theorem number4 (s : List UInt8) (hl : 8 ≤ s.length) : Vint.number s 4 4 = ((Vint.numS s 4 4 : Int), 0) := by
  have h := Vint.numS_lt s 4 4
  unfold Vint.number
  rw [if_neg (by unfold Vint.wide; omega), if_neg (by omega)]
  rw [show (4 : Int).toNat = 4 from rfl, if_neg (by omega)]
/-- What Open hands back. -/
def Pg.Opened (s : List UInt8) (v : Value) (rs : List Res) : Prop :=
  ((Pg.opn s).2 = 0 ∧ ∃ gf gb sp, gf ≠ gb ∧ v = .tuple #[.pointer (some ⟨gf, 0, none⟩), .int .i64 0] ∧ rs = [.cells gb 5 (s.map byte ++ sp).toArray, .cells gf 62 #[.slice (some ⟨gb, 0, none⟩) s.length (s.length + sp.length), str (Pg.opn s).1, .int .i64 0]]) ∨
  ((Pg.opn s).2 ≠ 0 ∧ v = .tuple #[.pointer none, .int .i64 (Pg.opn s).2] ∧ rs = [])
theorem Pg.opened_no {s : List UInt8} {e : Int} (h : Pg.opn s = ([], e)) (he : e ≠ 0) : Pg.Opened s (.tuple #[.pointer none, .int .i64 e]) [] := by
  right; rw [h]; exact ⟨he, rfl, rfl⟩
set_option maxRecDepth 20000 in
set_option maxHeartbeats 4000000 in
theorem pages_open (s : List UInt8) (hsm : s.length ≤ 9223372036854775807) (w : World) : Does Try.prog 15 #[str s] w fun v w' => ∃ rs, Sat w' (rs ++ [.anchor w []]) ∧ Pg.Opened s v rs := by
  refine does (args := [str s]) Try.func15 rfl (by kernel_rfl) (by kernel_rfl) rfl ent_15 (Sat.start w []) ?_; intro QV hQ
  have hO : Pg.opn s = (if s.length < 256 then ([], 2) else if s.length % 256 ≠ 0 then ([], 4) else if 65536 < s.length / 256 then ([], 3) else if (s.drop 252).take 4 ≠ Pg.sumB (s.take 252) then ([], 5) else if s.take 4 ≠ [80, 71, 70, 76] then ([], 12) else if Vint.numS s 4 4 ≠ s.length / 256 then ([], 6) else
    match Pg.headed s with
    | none => ([], 4)
    | some h => (h, 0) : List UInt8 × Int) := rfl
  by_cases h1 : s.length < 256
  · rw [if_pos h1] at hO
    have k1 : decide ((s.length : Int) < 256) = true := decide_eq_true (by omega)
    simp -implicitDefEqProofs (disch := omega) only [go_sem, k1]
    exact hQ _ _ fun w' hs => ⟨[], hs, Pg.opened_no hO (by decide)⟩
  rw [if_neg h1] at hO
  have k1 : decide ((s.length : Int) < 256) = false := decide_eq_false (by omega)
  obtain ⟨r, hr⟩ : ∃ r, r = s.length % 256 := ⟨_, rfl⟩
  have hrem : (s.length : Int).tmod 256 = (r : Int) := by rw [Int.tmod_eq_emod_of_nonneg (by omega), hr]; omega
  obtain ⟨q, hq⟩ : ∃ q, q = s.length / 256 := ⟨_, rfl⟩
  have hquo : (s.length : Int).tdiv 256 = (q : Int) := by rw [Int.tdiv_eq_ediv_of_nonneg (by omega), hq]; rfl
  rw [← hr, ← hq] at hO
  by_cases h2 : r = 0
  rotate_left
  · rw [if_pos h2] at hO
    have k2 : decide ((r : Int) = 0) = false := decide_eq_false (by omega)
    simp -implicitDefEqProofs (disch := omega) only [go_sem, k1, hrem, k2]
    exact hQ _ _ fun w' hs => ⟨[], hs, Pg.opened_no hO (by decide)⟩
  rw [if_neg (by simpa using h2)] at hO
  have k2 : decide ((r : Int) = 0) = true := decide_eq_true (by omega)
  by_cases h3 : 65536 < q
  · rw [if_pos h3] at hO
    have k3 : decide ((65536 : Int) < (q : Int)) = true := decide_eq_true (by omega)
    simp -implicitDefEqProofs (disch := omega) only [go_sem, k1, hrem, k2, hquo, k3]
    exact hQ _ _ fun w' hs => ⟨[], hs, Pg.opened_no hO (by decide)⟩
  rw [if_neg h3] at hO
  have k3 : decide ((65536 : Int) < (q : Int)) = false := decide_eq_false (by omega)
  have l1 : (s.take 252).length = 252 := by rw [List.length_take]; omega
  simp -implicitDefEqProofs (disch := omega) only [go_sem, k1, hrem, k2, hquo, k3]
  refine RDraw_to 6 (by kernel_rfl) (by kernel_rfl) (by kernel_rfl) ?_
  repeat (first | refine Tr_step (fun Q hq => by (simp -implicitDefEqProofs (disch := omega) only [go_sem, Int.reduceToNat, Nat.reduceSub]; exact hq)) ?_ | refine Tr_guard (by (simp -implicitDefEqProofs only [go_sem, Int.reduceToNat, Nat.reduceSub]; first | done | fail)) (fun Q hq => by (simp -implicitDefEqProofs (disch := omega) only [go_sem, Int.reduceToNat, Nat.reduceSub]; exact hq)) ?_ | refine Tr_skip (.inl (by (simp -implicitDefEqProofs only [go_sem, Int.reduceToNat, Nat.reduceSub]; first | done | fail))) ?_ | refine Tr_skip (.inr (by (simp -implicitDefEqProofs only [go_sem, Int.reduceToNat, Nat.reduceSub]; first | done | fail))) ?_)
  first | refine Tr_step (fun Q hq => by (simp -implicitDefEqProofs (disch := omega) only [go_sem, Int.reduceToNat]; refine RCall_eq (pages_sum (s.take 252) (by omega)) ?_; simp -implicitDefEqProofs (disch := omega) only [go_sem, Int.reduceToNat]; exact hq)) ?_ | refine Tr_guard (by (simp -implicitDefEqProofs only [go_sem, Int.reduceToNat]; first | done | fail)) (fun Q hq => by (simp -implicitDefEqProofs (disch := omega) only [go_sem, Int.reduceToNat]; refine RCall_eq (pages_sum (s.take 252) (by omega)) ?_; simp -implicitDefEqProofs (disch := omega) only [go_sem, Int.reduceToNat]; exact hq)) ?_
  repeat (first | refine Tr_step (fun Q hq => by (simp -implicitDefEqProofs (disch := omega) only [go_sem]; exact hq)) ?_ | refine Tr_guard (by (simp -implicitDefEqProofs only [go_sem]; first | done | fail)) (fun Q hq => by (simp -implicitDefEqProofs (disch := omega) only [go_sem]; exact hq)) ?_ | refine Tr_skip (.inl (by (simp -implicitDefEqProofs only [go_sem]; first | done | fail))) ?_ | refine Tr_skip (.inr (by (simp -implicitDefEqProofs only [go_sem]; first | done | fail))) ?_)
  refine To_nil ?_
  by_cases h4 : (s.drop 252).take 4 = Pg.sumB (s.take 252)
  rotate_left
  · rw [if_pos h4] at hO
    simp -implicitDefEqProofs (disch := omega) only [go_sem, decide_eq_false h4]
    exact hQ _ _ fun w' hs => ⟨[], hs, Pg.opened_no hO (by decide)⟩
  rw [if_neg (by simpa using h4)] at hO
  by_cases h5 : s.take 4 = [80, 71, 70, 76]
  rotate_left
  · rw [if_pos h5] at hO
    simp -implicitDefEqProofs (disch := omega) only [go_sem, decide_eq_true h4, Int.reduceToNat, decide_eq_false h5]
    exact hQ _ _ fun w' hs => ⟨[], hs, Pg.opened_no hO (by decide)⟩
  rw [if_neg (by simpa using h5)] at hO
  simp -implicitDefEqProofs (disch := omega) only [go_sem, decide_eq_true h4, Int.reduceToNat, decide_eq_true h5]
  refine RCall_eq (vint_number s (by omega) 4 4 (by omega)) ?_
  rw [number4 s (by omega)]
  by_cases h6 : Vint.numS s 4 4 = q
  rotate_left
  · rw [if_pos h6] at hO
    have k6 : decide ((Vint.numS s 4 4 : Int) = (q : Int)) = false := decide_eq_false (by omega)
    simp -implicitDefEqProofs (disch := omega) only [go_sem, hquo, k6]
    exact hQ _ _ fun w' hs => ⟨[], hs, Pg.opened_no hO (by decide)⟩
  rw [if_neg (by simpa using h6)] at hO
  have k6 : decide ((Vint.numS s 4 4 : Int) = (q : Int)) = true := decide_eq_true (by omega)
  simp -implicitDefEqProofs (disch := omega) only [go_sem, hquo, k6]
  refine RCall_eq (pages_headed s (by omega) hsm) ?_
  cases hh : Pg.headed s with
  | none =>
    rw [hh] at hO
    simp only [Pg.hdV]
    simp -implicitDefEqProofs (disch := omega) only [go_sem]
    exact hQ _ _ fun w' hs => ⟨[], hs, Pg.opened_no hO (by decide)⟩
  | some hd =>
    rw [hh] at hO
    simp only [Pg.hdV]
    simp -implicitDefEqProofs (disch := omega) only [go_sem]
    refine RRun_bytes Try.underlying9 bytes_t fun gb sp hgb => ?_
    simp only [below_cons, below_nil, under_anchor, and_true] at hgb
    simp -implicitDefEqProofs (disch := omega) only [go_sem]
    refine RNew_intro fun gf hgf => ?_
    simp only [below_cons, below_nil, under_anchor, under_cells, and_true] at hgf
    simp -implicitDefEqProofs (disch := omega) only [go_sem]
    refine hQ _ _ fun w' hs => ⟨[_, _], hs.swap2, .inl ⟨by rw [hO], gf, gb, sp, by omega, rfl, by rw [hO]⟩⟩
end Go.Proofs.Ytldidoaagijnhaa
