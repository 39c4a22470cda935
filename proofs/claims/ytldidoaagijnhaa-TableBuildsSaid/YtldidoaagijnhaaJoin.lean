/- Branches that come together again. -/
import Derived.Test.YtldidoaagijnhaaSeg
namespace Go.Proofs.Ytldidoaagijnhaa
set_option linter.unusedSimpArgs false
set_option linter.unusedVariables false
namespace H
open Go
theorem hl_mono {P : Program} {ops : List Oper} {K K' : Fr → List Res → Prop} (hk : ∀ f h, K f h → K' f h) : ∀ (l : List Oper) (f : Fr) (h : List Res), hl P ops l f h K → hl P ops l f h K'
  | [], f, h, hh => hk f h hh
  | o :: l, f, h, hh => by
    rw [hl_step] at hh ⊢
    exact hstep_mono (fun v h' hv => hl_mono hk l _ _ hv) hh
theorem gthen_mono {A A' : Fr → List Res → Prop} {Q Q' : Exit → Fr → List Res → Prop} (ha : ∀ f h, A f h → A' f h) (hq : ∀ e f h, Q e f h → Q' e f h) (e : Exit) (f : Fr) (h : List Res) (hh : gthen A Q e f h) : gthen A' Q' e f h := by
  cases e <;> first | exact ha _ _ hh | exact hq _ _ _ hh
theorem gblock_mono {id : Nat} {Q Q' : Exit → Fr → List Res → Prop} (hq : ∀ e f h, Q e f h → Q' e f h) (e : Exit) (f : Fr) (h : List Res) (hh : gblock id Q e f h) : gblock id Q' e f h := by
  cases e with
  | exit id' =>
    simp only [gblock] at hh ⊢
    split
    · rename_i he; rw [if_pos he] at hh; exact hq _ _ _ hh
    · rename_i he; rw [if_neg he] at hh; exact hq _ _ _ hh
  | _ => exact hq _ _ _ hh
theorem gscope_mono {Q Q' : Exit → Fr → List Res → Prop} (hq : ∀ e f h, Q e f h → Q' e f h) (e : Exit) (f : Fr) (h : List Res) (hh : gscope Q e f h) : gscope Q' e f h := by
  cases e <;> first | exact hh.elim | exact hq _ _ _ hh
theorem hc_mono {P : Program} : ∀ (c : Code) {Q Q' : Exit → Fr → List Res → Prop}, (∀ e f h, Q e f h → Q' e f h) → ∀ (f : Fr) (h : List Res), hc P c f h Q → hc P c f h Q'
  | .skip, _, _, hq, f, h, hh => hq _ _ _ hh
  | .region _ ops false, _, _, hq, f, h, hh => hl_mono (fun f h hk => hq _ _ _ hk) _ f h hh
  | .region _ ops true, _, _, hq, f, h, hh => fun t => hl_mono (fun f h hk => hq _ _ _ hk) _ f h (hh t)
  | .seq a b, _, _, hq, f, h, hh => hc_mono a (fun e f h hk => gthen_mono (fun f h hk => hc_mono b hq f h hk) hq e f h hk) f h hh
  | .cond c a b, _, _, hq, f, h, hh => by
    simp only [hc] at hh ⊢
    unfold hif at hh ⊢
    split at hh
    · exact Br_mono (fun hk => hc_mono a hq f h hk) (fun hk => hc_mono b hq f h hk) hh
    · exact hh.elim
  | .block id c, _, _, hq, f, h, hh => hc_mono c (gblock_mono hq) f h hh
  | .loop c, _, _, hq, f, h, hh => by
    obtain ⟨I, μ, h0, hr⟩ := hh
    exact ⟨I, μ, h0, fun f h hi => hc_mono c (gthen_mono (fun _ _ hk => hk) hq) f h (hr f h hi)⟩
  | .exit id, _, _, hq, f, h, hh => hq _ _ _ hh
  | .scope c, _, _, hq, f, h, hh => hc_mono c (gscope_mono hq) f h hh
  | .label l, _, _, hq, f, h, hh => hq _ _ _ hh
  | .ret, _, _, hq, f, h, hh => hq _ _ _ hh
  | .rangeFunc .., _, _, _, _, _, hh => hh.elim
  | .goto _, _, _, _, _, _, hh => hh.elim
  | .refuse _, _, _, _, _, _, hh => hh.elim
/-- Code, up to where it comes to its end; from there on, what is known there. -/
theorem R_join {P : Program} {c : Code} {s : List Kn} {f : Fr} {h : List Res} {Q : Exit → Fr → List Res → Prop} (I : Fr → List Res → Prop) (h1 : ∀ J : Fr → List Res → Prop, (∀ f h, I f h → J f h) → R P c [] f h (gthen J (cont P s Q))) (hk : ∀ f h, I f h → RN P s f h Q) : R P c s f h Q :=
  hc_mono c (fun e f h hh => by cases e <;> first | exact hk f h hh | exact hh) f h (h1 I fun _ _ h => h)
/-- A test whose branches come together. -/
theorem RC_join {P : Program} {v : Bool} {a b : Code} {s : List Kn} {f : Fr} {h : List Res} {Q : Exit → Fr → List Res → Prop} (I : Fr → List Res → Prop) (h1 : ∀ J : Fr → List Res → Prop, (∀ f h, I f h → J f h) → v = true → R P a [] f h (gthen J (cont P s Q))) (h2 : ∀ J : Fr → List Res → Prop, (∀ f h, I f h → J f h) → v = false → R P b [] f h (gthen J (cont P s Q))) (hk : ∀ f h, I f h → RN P s f h Q) : RC P (.bool v) a b s f h Q :=
  RC_intro (fun e => R_join I (fun J hJ => h1 J hJ e) hk) (fun e => R_join I (fun J hJ => h2 J hJ e) hk)
end H
end Go.Proofs.Ytldidoaagijnhaa
