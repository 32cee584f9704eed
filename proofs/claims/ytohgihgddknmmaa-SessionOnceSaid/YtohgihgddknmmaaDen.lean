/- 'den' for whole bodies: regions, branches, loops; that it suffices. -/
import Derived.Test.YtohgihgddknmmaaOrd
namespace Go.Proofs.Ytohgihgddknmmaa
open Go Go.RowKit
set_option linter.unusedVariables false
set_option linter.unusedSimpArgs false

/-! ### bodies -/
abbrev Kx := Exit → Fr → World → Prop
def kthen (K : Fr → World → Prop) (Q : Kx) : Kx
  | .normal, fr, w => K fr w
  | e, fr, w => Q e fr w
def kblock (id : Nat) (Q : Kx) : Kx
  | .exit i, fr, w => match i == id with
    | true => Q .normal fr w
    | false => Q (.exit i) fr w
  | e, fr, w => Q e fr w
/-- What a part B of a body, and what comes behind it, is behind another part. -/
def thenD (B : Kx → Fr → World → Prop) (Q : Kx) : Kx := kthen (B Q) Q
def loopD (D : Kx → Fr → World → Prop) (Q : Kx) (fr : Fr) (w : World) : Prop :=
  ∃ (I : Nat → Fr → World → Prop) (m : Nat), I m fr w ∧ ∀ m fr w, I m fr w → D (kthen (fun fr' w' => ∃ m', m' < m ∧ I m' fr' w') Q) fr w
def liftQ (Q : Kx) : Exit → Act → World → Prop := fun e a w => a.defers = [] ∧ Q e a.tmps.toList w
/-- Code that is left to the model's own condition. -/
def wpD (P : Program) (c : Code) (Q : Kx) (fr : Fr) (w : World) : Prop := c.wp P (liftQ Q) (act fr) w
def den (P : Program) : Code → Kx → Fr → World → Prop
  | .skip, Q, fr, w => Q .normal fr w
  | .region id ops draw, Q, fr, w => match draw with
    | false => denOps P ops ops.toList (Q .normal) fr w
    | true => match quietsB P ops && ops.toList.all (stillB P) with
      | true => denOpsQ P ops w ops.toList (fun fr => ∀ w', Mod [] w w' → Q .normal fr w') fr
      | false => match ordB P ops (ordOf P ops) with
        | true => ∀ w1, Mod [] w w1 → denE P ops (clo ops) (ordOf P ops) [] [] (Q .normal) fr w1
        | false => match quietsB P ops with
          | true => denOpsQ P ops w ops.toList (fun fr => ∀ w', Mod [] w w' → Q .normal fr w') fr
          | false => wpD P (.region id ops true) Q fr w
  | .seq a b, Q, fr, w => den P a (thenD (den P b) Q) fr w
  | .cond c a b, Q, fr, w => match ev fr c with
    | .bool t => brB t (den P a Q fr w) (den P b Q fr w)
    | _ => False
  | .block id c, Q, fr, w => den P c (kblock id Q) fr w
  | .loop c, Q, fr, w => loopD (den P c) Q fr w
  | .exit id, Q, fr, w => Q (.exit id) fr w
  | .ret, Q, fr, w => Q .ret fr w
  | .label _, Q, fr, w => Q .normal fr w
  | c, Q, fr, w => wpD P c Q fr w

def sub : Code → List Nat → Code
  | c, [] => c
  | .seq a _, 0 :: p => sub a p
  | .seq _ b, _ :: p => sub b p
  | .cond _ a _, 0 :: p => sub a p
  | .cond _ _ b, _ :: p => sub b p
  | .block _ c, _ :: p => sub c p
  | .loop c, _ :: p => sub c p
  | c, _ => c
/-- What goes on behind a part of a body; Ks: how the rounds go on of the loops round it, the outermost first. -/
def kont (P : Program) : Code → List Nat → List (Fr → World → Prop) → Kx → Kx
  | _, [], _, Q => Q
  | .seq a b, 0 :: p, Ks, Q => kont P a p Ks (thenD (den P b) Q)
  | .seq _ b, _ :: p, Ks, Q => kont P b p Ks Q
  | .cond _ a _, 0 :: p, Ks, Q => kont P a p Ks Q
  | .cond _ _ b, _ :: p, Ks, Q => kont P b p Ks Q
  | .block i c, _ :: p, Ks, Q => kont P c p Ks (kblock i Q)
  | .loop c, _ :: p, K :: Ks, Q => kont P c p Ks (kthen K Q)
  | _, _, _, Q => Q
/-- A value that a loop's head does not look at. -/
def jk : List (Nat × Value) → (Nat → Value) → Nat → Value
  | [], js, k => js k
  | (a, v) :: r, js, k => match Nat.beq a k with
    | true => v
    | false => jk r js k
def code (f : Func) : Code := f.body.getD .skip

def retD (P : Program) : List ResultVar → Fr → World → (List Value → Prop) → Prop
  | [], _, _, F => F []
  | .tmp t :: r, fr, w, F => retD P r fr w fun vs => F (fr.getD t undef :: vs)
  | .cell a t :: r, fr, w, F => match fr.getD a undef, (P.underlying t).isSome with
    | .pointer (some a), true => ldT P t w a fun v => retD P r fr w fun vs => F (v :: vs)
    | _, _ => False
/-- What a body's ending must give: the result, in its world. -/
def post (P : Program) (fn : Func) (R : Value → World → Prop) : Kx
  | .normal, fr, w | .ret, fr, w => retD P fn.results.toList fr w fun vs => match vs with
    | [v] => R v w
    | vs => R (.tuple ⟨vs⟩) w
  | _, _, _ => False

/-! ### that it suffices -/
theorem liftQ_kthen {P : Program} {K : Fr → World → Prop} {Q : Kx} {K' : Act → World → Prop} (hK : ∀ fr w, K fr w → K' (act fr) w) : ∀ e a w, liftQ (kthen K Q) e a w → Exit.then K' (liftQ Q) e a w := by
  intro e a w ⟨hd, h⟩
  have ha : a = act a.tmps.toList := by cases a; simp_all [act]
  cases e
  case normal => show K' a w; rw [ha]; exact hK _ _ h
  all_goals exact ⟨hd, h⟩

theorem least {p : Nat → Prop} (h : ∃ m, p m) : ∃ m, p m ∧ ∀ k, p k → m ≤ k := by
  obtain ⟨m, hm⟩ := h
  induction m using Nat.strongRecOn with
  | _ m ih =>
    by_cases hk : ∃ k, k < m ∧ p k
    · obtain ⟨k, h1, h2⟩ := hk; exact ih k h1 h2
    · exact ⟨m, hm, fun k h => by
        rcases Nat.lt_or_ge k m with h1 | h1
        · exact absurd ⟨k, h1, h⟩ hk
        · exact h1⟩

theorem den_sound {P : Program} (hm : P.follows .mixedOrders = true) : ∀ (c : Code) {Q : Kx} {fr : Fr} {w : World}, den P c Q fr w → c.wp P (liftQ Q) (act fr) w
  | .skip, Q, fr, w, h => wp_skip ⟨rfl, h⟩
  | .region id ops draw, Q, fr, w, h => by
    cases draw
    · exact wp_region_list (denOps_sound (fun fr w h => ⟨rfl, h⟩) h)
    · unfold den at h
      simp only at h
      have quiet : quietsB P ops = true → denOpsQ P ops w ops.toList (fun fr => ∀ w', Mod [] w w' → Q .normal fr w') fr → (Code.region id ops true).wp P (liftQ Q) (act fr) w := fun hq h => by
        unfold quietsB at hq
        simp only [Bool.and_eq_true] at hq
        refine wp_region_quiet (C := fun w' => Mod [] w w') hm hq.2 (Mod.drewN w 1) ?_
        exact denOpsQ_sound (fun fr h w' hw' => ⟨rfl, h w' hw'⟩) h
      split at h
      · rename_i hq
        simp only [Bool.and_eq_true] at hq
        exact quiet hq.1 h
      · split at h
        · rename_i hL
          exact ordVC_region hm hL fun w1 h1 => denE_sound (fun fr w h => ⟨rfl, h⟩) (h w1 h1) ⟨by simp, by simp⟩
        · split at h
          · rename_i hq
            exact quiet hq h
          · exact h
  | .seq a b, Q, fr, w, h => by
    refine wp_seq (Code.wp_mono (fun e a w hq => ?_) (den_sound hm a h))
    exact liftQ_kthen (P := P) (fun fr w h => den_sound hm b h) e a w hq
  | .cond c a b, Q, fr, w, h => by
    unfold den at h
    split at h
    · rename_i t ht
      refine wp_cond (t := t) (by rw [eval_act]; exact ht) ?_
      cases t
      · exact den_sound hm b h
      · exact den_sound hm a h
    · exact h.elim
  | .block id c, Q, fr, w, h => by
    refine wp_block (Code.wp_mono (fun e a w hq => ?_) (den_sound hm c h))
    obtain ⟨hd, hq⟩ := hq
    cases e
    case exit i =>
      simp only [kblock] at hq
      show if i = id then liftQ Q .normal a w else liftQ Q (.exit i) a w
      split at hq
      · rename_i hi; rw [if_pos (by simpa using hi)]; exact ⟨hd, hq⟩
      · rename_i hi; rw [if_neg (by simpa using hi)]; exact ⟨hd, hq⟩
    all_goals exact ⟨hd, hq⟩
  | .loop c, Q, fr, w, h => by
    obtain ⟨I, m, h0, hr⟩ := h
    classical
    let μ : Act → World → Nat := fun a w => if h : ∃ m, I m a.tmps.toList w then Classical.choose (least h) else 0
    refine wp_loop (fun a w => a.defers = [] ∧ ∃ m, I m a.tmps.toList w) μ ⟨rfl, m, h0⟩ fun a w ⟨hd, hI⟩ => ?_
    have ha : a = act a.tmps.toList := by cases a; simp_all [act]
    have e1 : μ a w = Classical.choose (least hI) := dif_pos hI
    have := den_sound hm c (hr _ _ _ (Classical.choose_spec (least hI)).1)
    rw [← ha] at this
    refine Code.wp_mono (fun e a' w' hq => ?_) this
    refine liftQ_kthen (P := P) (K' := fun a' w' => (a'.defers = [] ∧ ∃ m, I m a'.tmps.toList w') ∧ μ a' w' < μ a w) (fun fr w' ⟨m', h1, h2⟩ => ⟨⟨rfl, m', h2⟩, ?_⟩) e a' w' hq
    have h3 : ∃ m, I m (act fr).tmps.toList w' := ⟨m', h2⟩
    have e2 : μ (act fr) w' = Classical.choose (least h3) := dif_pos h3
    rw [e1, e2]
    exact Nat.lt_of_le_of_lt ((Classical.choose_spec (least h3)).2 m' h2) h1
  | .exit id, Q, fr, w, h => wp_exit ⟨rfl, h⟩
  | .ret, Q, fr, w, h => wp_ret ⟨rfl, h⟩
  | .label l, Q, fr, w, h => wp_label ⟨rfl, h⟩
  | .rangeFunc .., Q, fr, w, h => h
  | .scope _, Q, fr, w, h => h
  | .goto _, Q, fr, w, h => h
  | .refuse _, Q, fr, w, h => h

def resOne (tmps : Array Value) : ResultVar → Sem Value
  | .tmp t => pure (tmps.getD t undef)
  | .cell a t => do loadVar t (← asAddr (tmps.getD a undef))
theorem results_eq (fn : Func) (tmps : Array Value) : results fn tmps = (do
    let vs ← fn.results.mapM (resOne tmps)
    pure (if h : vs.size = 1 then vs[0] else .tuple vs)) := by
  unfold results
  congr 1

theorem retD_run {P : Program} {fr : Fr} {w : World} : ∀ {rs : List ResultVar} {F : List Value → Prop}, retD P rs fr w F → ∃ vs, F vs ∧ (rs.mapM (resOne (act fr).tmps)).run P w = .ok vs w
  | [], F, h => ⟨[], h, by simp [Sem.run]⟩
  | .tmp t :: r, F, h => by
    obtain ⟨vs, h1, h2⟩ := retD_run (rs := r) h
    refine ⟨_, h1, ?_⟩
    have e1 : (resOne (act fr).tmps (.tmp t)).run P w = .ok (fr.getD t undef) w := by simp [resOne, act, Sem.run]
    rw [List.mapM_cons, Sem.run_bind, e1]
    simp only [Result.andThen]
    rw [Sem.run_bind, h2]
    rfl
  | .cell a t :: r, F, h => by
    unfold retD at h
    split at h
    · rename_i a' ha hd
      obtain ⟨v, h, hr⟩ := ldT_run h hd
      obtain ⟨vs, h1, h2⟩ := retD_run (rs := r) h
      refine ⟨_, h1, ?_⟩
      have hr := hr w (Mod.refl w)
      have e2 : (act fr).tmps.getD a undef = .pointer (some a') := by simpa [act] using ha
      have e1 : (resOne (act fr).tmps (.cell a t)).run P w = .ok v w := by
        show (do loadVar t (← asAddr ((act fr).tmps.getD a undef)) : Sem Value).run P w = _
        rw [e2]
        exact hr
      rw [List.mapM_cons, Sem.run_bind, e1]
      simp only [Result.andThen]
      rw [Sem.run_bind, h2]
      rfl
    · exact h.elim

theorem results_run {P : Program} {fn : Func} {R : Value → World → Prop} {fr : Fr} {w : World} (h : retD P fn.results.toList fr w fun vs => match vs with
    | [v] => R v w
    | vs => R (.tuple ⟨vs⟩) w) : ∃ v, (results fn (act fr).tmps).run P w = .ok v w ∧ R v w := by
  obtain ⟨vs, h1, h2⟩ := retD_run h
  have e : (fn.results.mapM (resOne (act fr).tmps)).run P w = .ok vs.toArray w := by
    rw [Array.mapM_eq_mapM_toList, map_eq_pure_bind, Sem.run_bind, h2]
    simp [Result.andThen]
  rw [results_eq, Sem.run_bind, e]
  simp only [Result.andThen]
  split at h1
  · rename_i v
    exact ⟨v, by simp [Sem.run], h1⟩
  · rename_i hn
    refine ⟨_, ?_, h1⟩
    have : ¬ vs.toArray.size = 1 := fun hl => by
      match vs, hl, hn with
      | [v], _, hn => exact hn v rfl
    rw [dif_neg this]; rfl

/-- A CALL: what is to be shown of the body's condition. -/
theorem calls_den {P : Program} (hm : P.follows .mixedOrders = true) {f : FuncId} {fn : Func} {c : Code} {args : List Value} {n : Nat} {w : World} {R : Value → World → Prop} (hf : P.funcs[f]? = some fn) (hb : fn.body = some c) (hn : fn.ntmps = n)
    (h : den P c (post P fn R) (args ++ List.replicate (n - args.length) undef) w) : Calls P f args.toArray w fun e w' => ∃ v, e = .returned v ∧ R v w' := by
  refine calls_of_wp hf hb ?_
  have e : ({ tmps := args.toArray ++ Array.replicate (fn.ntmps - args.toArray.size) undef, defers := [] } : Act) = act (args ++ List.replicate (n - args.length) undef) := by
    simp [act, hn]
  rw [e]
  refine Code.wp_mono (fun e a w' hq => ?_) (den_sound hm c h)
  obtain ⟨hd, hq⟩ := hq
  have ha : a = act a.tmps.toList := by cases a; simp_all [act]
  cases e
  case normal => rw [ha]; obtain ⟨v, h1, h2⟩ := results_run hq; exact ⟨rfl, v, h1, v, rfl, h2⟩
  case ret => rw [ha]; obtain ⟨v, h1, h2⟩ := results_run hq; exact ⟨rfl, v, h1, v, rfl, h2⟩
  all_goals exact hq.elim

end Go.Proofs.Ytohgihgddknmmaa
