/- Maps of texts to numbers. -/
import Derived.Test.YtldidoaagijnhaaMut
import Derived.Maps.Views
import Derived.StringKeys
namespace Go.Proofs.Ytldidoaagijnhaa
set_option linter.unusedSimpArgs false
set_option linter.unusedVariables false
namespace H
open Go Go.Maps
/-- A map of one's own: at most n keys, each with its number. -/
def MapIs (P : Program) (k e : TypeId) (g n : Nat) (F : List UInt8 → Option Int) (w : World) : Prop :=
  ∃ D : DataW Unit, w.ownsMap P k (plainElem P e) g n D ∧ IsMap D ∧ ∀ s : List UInt8, s.length ≤ maxLen → ∀ zd, D.atKey (.string s) zd = match F s with | some c => .lit (.int .i64 c) | none => zd
theorem MapIs.stable (P : Program) (k e : TypeId) (g n : Nat) (F : List UInt8 → Option Int) : Stable (fun b => b = g) (MapIs P k e g n F) := by
  rintro w w' hb ⟨D, ⟨es, cl, h1, h2⟩, h3⟩
  exact ⟨D, ⟨es, cl, (hb g rfl).trans h1, h2⟩, h3⟩
def Mp (P : Program) (k e : TypeId) (g n : Nat) (F : List UInt8 → Option Int) : Res := .sem (fun b => b = g) (MapIs P k e g n F) (MapIs.stable P k e g n F)
section
variable (P : Program) (k e : TypeId) (g n : Nat) (F : List UInt8 → Option Int) (h : List Res)
theorem look_mp (ad : Addr) : look ad (Mp P k e g n F :: h) = look ad h := rfl
theorem lookN_mp (ad : Addr) (m : Nat) : lookN ad m (Mp P k e g n F :: h) = lookN ad m h := rfl
theorem hset_mp (ad : Addr) (u : Value) : hset ad u (Mp P k e g n F :: h) = (hset ad u h).map (Mp P k e g n F :: ·) := rfl
end
attribute [go_sem] look_mp lookN_mp hset_mp
theorem RRun_makeMap {P : Program} {t k e : TypeId} {d : Option Nat} {ops rest : List Oper} {s : List Kn} {f : Fr} {h : List Res} {Q : Exit → Fr → List Res → Prop}
    (hk : ∀ g, below g h → RL P ops rest s (put f d (.map (some g))) (Mp P k e g 0 (fun _ => none) :: h) Q) : RRun P (sMakeMap t none) ⟨d, ops, rest, s⟩ f h Q := by
  intro w hw
  refine ⟨_, w.alloc (.map #[] 0), Mp P k e w.heap.size 0 (fun _ => none) :: h, rfl, (show Sat _ (_ :: _) from ⟨?_, ?_, ?_, hw.ext (Ext.alloc w _)⟩), hk w.heap.size hw.below⟩
  · exact ⟨.map [], World.ownsMap_made w P k _, isMap_empty, fun s _ zd => rfl⟩
  · intro b hb
    obtain rfl : b = w.heap.size := hb
    simp
  · intro r hr b hb hb'
    obtain rfl : b = w.heap.size := hb
    exact absurd (hw.lt r hr _ hb') (Nat.lt_irrefl _)
/-- v, ok := m[s]. -/
theorem RRun_lookup {P : Program} {t k e : TypeId} {g n : Nat} {F : List UInt8 → Option Int} {d : Option Nat} {ops rest : List Oper} {s : List Kn} {f : Fr} {h : List Res} {Q : Exit → Fr → List Res → Prop} {x : List UInt8}
    (ht : P.underlying t = some (.map k e)) (hks : P.underlying k = some .string) (he : P.underlying e = some (.int .i64)) (hz : zeroT P e = some (.int .i64 0)) (hm : Mp P k e g n F ∈ h) (hx : x.length ≤ maxLen)
    (hk : RL P ops rest s (put f d (.tuple #[.int .i64 ((F x).getD 0), .bool (F x).isSome])) h Q) : RRun P (sLookup t (.map (some g)) (str x) true) ⟨d, ops, rest, s⟩ f h Q := by
  intro w hw
  obtain ⟨D, hown, hD, hat⟩ : MapIs P k e g n F w := hw.mem _ hm
  have hat := hat x hx
  obtain ⟨es, clock, hb, hfit, _, rfl⟩ := hown
  have hkey : keyOf P k (str x) = some (.string x) := by
    have := Go.WideMaps.keyOf_string_mk (P := P) (k := k) hks (s := ⟨x.toArray⟩) hx
    exact this
  refine ⟨_, w, h, ?_, hw, hk⟩
  rcases fit_look true (string_keyed hks) ht (run_zero hz w) hb hfit hkey with ⟨hrun, _, hno⟩ | ⟨e0, y, _, _, hrun, hRv, hyes, _⟩
  · have hF : F x = none := by
      cases hc : F x with
      | none => rfl
      | some c =>
        have h1 := hat (.lit (.bool true))
        rw [hno, hc] at h1
        cases h1
    rw [hF]
    exact hrun
  · obtain ⟨c, hc, hy, _⟩ := plainElem_int_inv he hRv
    have hF : F x = some c := by
      cases hc' : F x with
      | none =>
        have h1 := hat (.lit (.bool true))
        rw [hyes, hc', hy] at h1
        cases h1
      | some c' =>
        have h1 := hat (.lit (.bool true))
        rw [hyes, hc', hy] at h1
        injection h1 with h1
        injection h1 with _ h1
        rw [h1]
    rw [hF]
    rw [hc] at hrun
    exact hrun
/-- m[s] = c. -/
theorem RRunU_mapUpdate {P : Program} {t k e : TypeId} {g n : Nat} {F : List UInt8 → Option Int} {d : Option Nat} {ops rest : List Oper} {s : List Kn} {f : Fr} {Q : Exit → Fr → List Res → Prop} {x : List UInt8} {c : Int} (pre suf : List Res) {h : List Res} (hh : h = pre ++ Mp P k e g n F :: suf)
    (ht : P.underlying t = some (.map k e)) (hks : P.underlying k = some .string) (he : P.underlying e = some (.int .i64)) (hx : x.length ≤ maxLen) (hc : -9223372036854775808 ≤ c ∧ c ≤ 9223372036854775807) (hn : n < maxLen)
    (hk : RL P ops rest s (put f d undef) (pre ++ Mp P k e g (n + 1) (fun y => if y = x then some c else F y) :: suf) Q) : RRunU P (sMapUpdate t (.map (some g)) (str x) (.int .i64 c)) ⟨d, ops, rest, s⟩ f h Q := by
  subst hh
  intro w hw
  obtain ⟨D, hown, hD, hat⟩ : MapIs P k e g n F w := hw.mem (Mp P k e g n F) (by simp)
  have hkey : keyOf P k (str x) = some (.string x) := by
    have := Go.WideMaps.keyOf_string_mk (P := P) (k := k) hks (s := ⟨x.toArray⟩) hx
    exact this
  have hwf : (Lit.int .i64 c).wf = true := by
    simp only [Lit.wf, Bool.and_eq_true, decide_eq_true_eq]
    exact ⟨hc.1, hc.2⟩
  obtain ⟨w', hrun, hown', hgr⟩ := hown.update (string_keyed hks) ht hn hkey (plainElem_int he hwf)
  have hx' : Ext [g] w w' := ⟨hgr.os, hgr.tape, hgr.output, hgr.size, fun b hb hS => hgr.block b hb fun e => hS (by simpa using e)⟩
  refine ⟨w', _, hrun, ?_, hk⟩
  refine Sat.swap (r := Mp P k e g n F) (r' := Mp P k e g (n + 1) (fun y => if y = x then some c else F y)) hx' (fun b hb => by simpa [Mp, Res.fp] using hb) ?_ (fun b hb => ?_) (fun b hb => .inl hb) hw
  · refine ⟨D.put (.string x) (.lit (.int .i64 c)), hown', hD.put _ _, fun y hy zd => ?_⟩
    by_cases hyx : y = x
    · subst hyx
      show _ = (match (if y = y then some c else F y) with | some c => DataW.lit (.int .i64 c) | none => zd)
      rw [if_pos rfl, atKey_put_same hD ((string_keyed hks).key hkey)]
    · show _ = (match (if y = x then some c else F y) with | some c => DataW.lit (.int .i64 c) | none => zd)
      rw [if_neg hyx, atKey_put_other (fun h => hyx (by injection h))]
      exact hat y hy zd
  · obtain rfl : b = g := hb
    exact hown'.lt
end H
end Go.Proofs.Ytldidoaagijnhaa
