/- Operations with an effect, and regions: their conditions, and that these suffice. -/
import Derived.Test.YtohgihgddknmmaaSt
namespace Go.Proofs.Ytohgihgddknmmaa
open Go Go.RowKit
set_option linter.unusedVariables false
set_option linter.unusedSimpArgs false

/-! ### effects -/
/-- A new block. -/
def al (w : World) (o : Obj) (F : Nat → World → Prop) : Prop := F w.heap.size (w.alloc o)
def leafB : Value → Bool
  | .agg _ | .tuple _ => false
  | _ => true
/-- Cells written from an address on. -/
def stC (w : World) (a : Addr) : Nat → List Value → (World → Prop) → Prop
  | _, [], F => F w
  | i, v :: r, F => leafB v = true ∧ (w.cell? (a.add i)).isSome = true ∧ w.frozen? (a.add i) = false ∧ stC (w.setCell (a.add i) v) a (i + 1) r F
def st (w : World) (a : Addr) (vs : List Value) (F : World → Prop) : Prop := stC w a 0 vs F
/-- An operation of the model's own, by its run. -/
def eff {α : Type} (P : Program) (s : Sem α) (w : World) (F : α → World → Prop) : Prop := ∃ v w', s.run P w = .ok v w' ∧ F v w'
def effSl (P : Program) (s : Sem Value) (w : World) (F : Option Addr → Nat → Nat → World → Prop) : Prop := ∃ a n c w', s.run P w = .ok (.slice a n c) w' ∧ F a n c w'
def effInt (P : Program) (s : Sem Value) (w : World) (F : Int → World → Prop) : Prop := ∃ n w', s.run P w = .ok (.int .i64 n) w' ∧ F n w'
def effPtr (P : Program) (s : Sem Value) (w : World) (F : Addr → World → Prop) : Prop := ∃ a w', s.run P w = .ok (.pointer (some a)) w' ∧ F a w'
def effU (P : Program) (s : Sem Unit) (w : World) (F : World → Prop) : Prop := ∃ w', s.run P w = .ok () w' ∧ F w'
def effV (P : Program) (s : Sem Value) (w : World) (F : Value → World → Prop) : Prop := ∃ v w', s.run P w = .ok v w' ∧ F v w'

/-- One new block, then nothing that needs a world. -/
def newRun {α : Type} (P : Program) : Sem α → Option (Obj × (Nat → Option α))
  | .new o k => some (o, fun r => pureRun P (k r))
  | .program k => newRun P (k P)
  | .mark _ k => newRun P k
  | _ => none
theorem run_of_newRun {α : Type} {P : Program} : ∀ {s : Sem α} {o : Obj} {k : Nat → Option α} {a : α} {w : World}, newRun P s = some (o, k) → k w.heap.size = some a → s.run P w = .ok a (w.alloc o)
  | .new o' k', o, k, a, w, h, hk => by
    simp only [newRun, Option.some.injEq, Prod.mk.injEq] at h
    obtain ⟨rfl, rfl⟩ := h
    simp only [Sem.run]
    exact run_of_pureRun hk _
  | .program k', _, _, _, _, h, hk => by simp only [newRun] at h; simp only [Sem.run]; exact run_of_newRun h hk
  | .mark _ k', _, _, _, _, h, hk => by simp only [newRun] at h; simp only [Sem.run]; exact run_of_newRun h hk
  | .pure _, _, _, _, _, h, _ => by cases h
  | .load .., _, _, _, _, h, _ => by cases h
  | .store .., _, _, _, _, h, _ => by cases h
  | .shape .., _, _, _, _, h, _ => by cases h
  | .freeze .., _, _, _, _, h, _ => by cases h
  | .frozen .., _, _, _, _, h, _ => by cases h
  | .getObj .., _, _, _, _, h, _ => by cases h
  | .setObj .., _, _, _, _, h, _ => by cases h
  | .choose .., _, _, _, _, h, _ => by cases h
  | .sys .., _, _, _, _, h, _ => by cases h
  | .halt .., _, _, _, _, h, _ => by cases h

def newOp (P : Program) (o : Oper) (ρ : Operand → Value) (w : World) (K : Value → World → Prop) : Prop := match newRun P (execOp ρ o) with
  | some (ob, k) => al w ob fun b w' => match k b with
    | some (.value v) => K v w'
    | _ => False
  | none => False
def callOp (P : Program) (o : Oper) (ρ : Operand → Value) (w : World) (K : Value → World → Prop) : Prop := match pureRun P (execOp ρ o) with
  | some (.enter f args) => call P f args w K
  | some (.value v) => K v w
  | _ => False
def callOpQ (P : Program) (o : Oper) (ρ : Operand → Value) (w : World) (K : Value → Prop) : Prop := match pureRun P (execOp ρ o) with
  | some (.enter f args) => callQ P f args w K
  | some (.value v) => K v
  | _ => False

/-- The type at which a part of an entry is taken out behind. -/
def partT (d : Option Tmp) (i : Nat) : List Oper → Option TypeId
  | [] => none
  | o :: r => match o.op, d with
    | .extract (.tmp t) j, some d => match Nat.beq t d && Nat.beq i j with
      | true => some o.type
      | false => partT (some d) i r
    | _, d => partT d i r
def exOpt (P : Program) (t : Option TypeId) (F : Value → Prop) : Prop := match t with
  | some t => exT P t F
  | none => ∃ v, F v
theorem exOpt_out {P : Program} {t : Option TypeId} {F : Value → Prop} (h : exOpt P t F) : ∃ v, F v := by
  cases t
  · exact h
  · exact exT_out h
/-- The next entry, or none. -/
def nextM (P : Program) (it : Value) (ty : TypeId) (w : World) (F0 : World → Prop) (F1 : Value → Value → World → Prop) : Prop :=
  (∃ w', (Instr.next it false ty).run P w = .ok (.tuple #[.bool false]) w' ∧ F0 w') ∨ (∃ k v w', (Instr.next it false ty).run P w = .ok (.tuple #[.bool true, k, v]) w' ∧ F1 k v w')
def nextS (P : Program) (it : Value) (ty : TypeId) (w : World) (F0 : World → Prop) (F1 : Int → Int → World → Prop) : Prop :=
  (∃ w', (Instr.next it true ty).run P w = .ok (.tuple #[.bool false]) w' ∧ F0 w') ∨ (∃ k v w', (Instr.next it true ty).run P w = .ok (.tuple #[.bool true, .int .i64 k, .int .i32 v]) w' ∧ F1 k v w')
def entryD (P : Program) (it : Value) (tk tv : Option TypeId) (w : World) (F : Value → Value → World → Prop) : Prop :=
  exOpt P tk fun k => exOpt P tv fun v => ∃ w', (Instr.entry it).run P w = .ok (.tuple #[k, v]) w' ∧ F k v w'

def denOp (P : Program) (rest : List Oper) (o : Oper) (ρ : Operand → Value) (w : World) (K : Value → World → Prop) : Prop :=
  match o.op with
  | .alloc _ | .box _ _ | .buildSlice _ _ _ | .makeMap _ _ => newOp P o ρ w K
  | .store t a x => match ρ a, (ρ x).cells.size == P.cellsOf t, (P.underlying t).isSome with
    | .pointer (some a), true, true => st w a (ρ x).cells.toList fun w' => K undef w'
    | _, _, _ => False
  | .makeSlice t l c => effSl P (Instr.makeSlice t (ρ l) (ρ c)) w fun a n c w' => K (.slice a n c) w'
  | .mapUpdate t m k x => effU P (Instr.mapUpdate t (ρ m) (ρ k) (ρ x)) w fun w' => K undef w'
  | .insert t m k x => effU P (Instr.mapUpdate t (ρ m) (ρ k) (ρ x)) w fun w' => K undef w'
  | .range t x => effPtr P (Instr.range t (ρ x)) w fun a w' => K (.pointer (some a)) w'
  | .next it isS => match isS with
    | false => nextM P (ρ it) o.type w (fun w' => K (.tuple #[.bool false]) w') fun k v w' => K (.tuple #[.bool true, k, v]) w'
    | true => nextS P (ρ it) o.type w (fun w' => K (.tuple #[.bool false]) w') fun k v w' => K (.tuple #[.bool true, .int .i64 k, .int .i32 v]) w'
  | .entry it => entryD P (ρ it) (partT o.dst 0 rest) (partT o.dst 1 rest) w fun k v w' => K (.tuple #[k, v]) w'
  | .convert src dst x => match P.underlying src, P.underlying dst with
    | some .string, some (.slice _) => effSl P (Go.convert src dst (ρ x)) w fun a n c w' => K (.slice a n c) w'
    | some (.slice _), some .string => ∃ s w', (Go.convert src dst (ρ x)).run P w = .ok (.string s) w' ∧ K (.string s) w'
    | _, _ => pureOp P o ρ fun v => K v w
  | .call c => match c.callee with
    | .builtin .append => effSl P (Builtin.append_ c.argTypes o.type (c.args.map ρ)) w fun a n c w' => K (.slice a n c) w'
    | .builtin .copy => effInt P (Builtin.copy_ c.argTypes o.type (c.args.map ρ)) w fun n w' => K (.int .i64 n) w'
    | .builtin .delete => effV P (Builtin.delete_ c.argTypes o.type (c.args.map ρ)) w K
    | .builtin .clear => effV P (Builtin.clear_ c.argTypes o.type (c.args.map ρ)) w K
    | .builtin _ => quietOp P o ρ w fun v => K v w
    | _ => callOp P o ρ w K
  | _ => quietOp P o ρ w fun v => K v w

def denOpQ (P : Program) (o : Oper) (ρ : Operand → Value) (w : World) (K : Value → Prop) : Prop :=
  match o.op with
  | .alloc _ | .box _ _ | .buildSlice _ _ _ | .makeMap _ _ | .store .. | .makeSlice .. | .mapUpdate .. | .insert .. | .range .. | .next .. | .entry _ | .convert .. => False
  | .call c => match c.callee with
    | .builtin .append | .builtin .copy | .builtin .delete | .builtin .clear => False
    | .builtin _ => quietOp P o ρ w K
    | _ => callOpQ P o ρ w K
  | _ => quietOp P o ρ w K

def putB (fr : Fr) (d : Nat) (t : Bool) : Fr := fr.set d (.bool t)

def denOps (P : Program) (ops : Array Oper) : List Oper → (Fr → World → Prop) → Fr → World → Prop
  | [], K, fr, w => K fr w
  | o :: r, K, fr, w => match o.guard with
    | none => denOp P r o (ev fr) w fun v w' => denOps P ops r K (pt fr o.dst v) w'
    | some (j, b) => match (ops[j]?).bind (·.dst) with
      | none => denOps P ops r K (pt fr o.dst undef) w
      | some d => match fr.getD d undef with
        | .bool t => brB t
            (match b with
              | true => denOp P r o (ev (fr.set d (.bool true))) w fun v w' => denOps P ops r K (pt (fr.set d (.bool true)) o.dst v) w'
              | false => denOps P ops r K (pt (fr.set d (.bool true)) o.dst undef) w)
            (match b with
              | false => denOp P r o (ev (fr.set d (.bool false))) w fun v w' => denOps P ops r K (pt (fr.set d (.bool false)) o.dst v) w'
              | true => denOps P ops r K (pt (fr.set d (.bool false)) o.dst undef) w)
        | _ => denOps P ops r K (pt fr o.dst undef) w

def denOpsQ (P : Program) (ops : Array Oper) (w : World) : List Oper → (Fr → Prop) → Fr → Prop
  | [], K, fr => K fr
  | o :: r, K, fr => match o.guard with
    | none => denOpQ P o (ev fr) w fun v => denOpsQ P ops w r K (pt fr o.dst v)
    | some (j, b) => match (ops[j]?).bind (·.dst) with
      | none => denOpsQ P ops w r K (pt fr o.dst undef)
      | some d => match fr.getD d undef with
        | .bool t => brB t
            (match b with
              | true => denOpQ P o (ev (fr.set d (.bool true))) w fun v => denOpsQ P ops w r K (pt (fr.set d (.bool true)) o.dst v)
              | false => denOpsQ P ops w r K (pt (fr.set d (.bool true)) o.dst undef))
            (match b with
              | false => denOpQ P o (ev (fr.set d (.bool false))) w fun v => denOpsQ P ops w r K (pt (fr.set d (.bool false)) o.dst v)
              | true => denOpsQ P ops w r K (pt (fr.set d (.bool false)) o.dst undef))
        | _ => denOpsQ P ops w r K (pt fr o.dst undef)

/-- Operations that may stand in a region whose order is open, and leave the world. -/
def quietB (P : Program) (o : Oper) : Bool := match o.op with
  | .alloc _ | .box _ _ | .buildSlice _ _ _ | .makeMap _ _ | .store .. | .makeSlice .. | .mapUpdate .. | .insert .. | .range .. | .next .. | .entry _ | .go _ | .defer _ | .panic _ | .send .. | .recv .. | .select .. => false
  | .convert src dst _ => match P.underlying src, P.underlying dst with
    | some .string, _ => false
    | some (.slice _), _ => false
    | _, _ => true
  | .call c => match c.callee with
    | .builtin .append | .builtin .copy | .builtin .delete | .builtin .clear => false
    | _ => true
  | _ => true
def quietsB (P : Program) (ops : Array Oper) : Bool := ops.toList.all (quietB P) && Region.lexB .any ops

/-! ### that it suffices -/
/-- What an operation comes to: a value, or what a call hands back. -/
def effW (P : Program) (s : Sem Next) (w : World) (K : Value → World → Prop) : Prop := match s.run P w with
  | .ok (.value v) w' => K v w'
  | .ok .skip w' => K undef w'
  | .ok (.enter f args) w' => Calls P f args w' fun e w'' => ∃ v, e = .returned v ∧ K v w''
  | _ => False
theorem effW_mono {P : Program} {s : Sem Next} {w : World} {K K' : Value → World → Prop} (h : effW P s w K) (hk : ∀ v w', K v w' → K' v w') : effW P s w K' := by
  unfold effW at *
  split at h
  · exact hk _ _ h
  · exact hk _ _ h
  · exact h.mono fun e w'' ⟨v, h1, h2⟩ => ⟨v, h1, hk _ _ h2⟩
  · exact h.elim
theorem effW_wp {P : Program} {o : Oper} {a : Act} {w : World} {K : Value → World → Prop} {Q : Exit → Act → World → Prop} {next : Act → World → Prop} (h : effW P (execOp a.eval o) w K) (hK : ∀ v w', K v w' → next (a.put o.dst v) w') : o.wp P a w next Q := by
  unfold effW at h
  unfold Oper.wp
  split at h
  · rename_i v w' he; rw [he]; exact hK _ _ h
  · rename_i w' he; rw [he]; exact hK _ _ h
  · rename_i f args w' he
    rw [he, Oper.upon_enter]
    refine Calls.mono h fun e w'' hv => ?_
    obtain ⟨v, rfl, hk⟩ := hv
    exact hK v w'' hk
  · exact h.elim
theorem effW_run {P : Program} {s : Sem Next} {w w' : World} {v : Value} {K : Value → World → Prop} (he : s.run P w = .ok (.value v) w') (h : K v w') : effW P s w K := by unfold effW; rw [he]; exact h
theorem effW_skip {P : Program} {s : Sem Next} {w w' : World} {K : Value → World → Prop} (he : s.run P w = .ok .skip w') (h : K undef w') : effW P s w K := by unfold effW; rw [he]; exact h
theorem effW_call {P : Program} {f : FuncId} {args : Array Value} {w : World} {K : Value → World → Prop} {s : Sem Next} (h : call P f args w K) (he : s.run P w = .ok (.enter f args) w) : effW P s w K := by
  unfold effW
  rw [he]
  refine Calls.mono h fun e w' h => ?_
  obtain ⟨v, hv⟩ := exRes_out h
  exact ⟨v, hv.1, hv.2⟩

theorem stC_run {P : Program} {a : Addr} {F : World → Prop} : ∀ {vs : List Value} {i : Nat} {w : World}, stC w a i vs F → ∃ w', (storeCells a vs i).run P w = .ok () w' ∧ F w'
  | [], i, w, h => ⟨w, rfl, h⟩
  | v :: r, i, w, h => by
    obtain ⟨hl, hc, hf, h⟩ := h
    obtain ⟨u, hu⟩ := Option.isSome_iff_exists.1 hc
    obtain ⟨w', h1, h2⟩ := stC_run (P := P) h
    refine ⟨w', ?_, h2⟩
    simp only [storeCells, store, Sem.run_bind]
    have : (Sem.store .plain (a.add i) v (.pure ())).run P w = .ok () (w.setCell (a.add i) v) := by
      cases v <;> simp [leafB] at hl <;> simp [Sem.run, hu, hf]
    rw [this]
    exact h1

theorem denOp_eff {P : Program} {rest : List Oper} {o : Oper} {ρ : Operand → Value} {w : World} {K : Value → World → Prop} (h : denOp P rest o ρ w K) : effW P (execOp ρ o) w K := by
  have quiet : quietOp P o ρ w (fun v => K v w) → effW P (execOp ρ o) w K := fun h =>
    let ⟨v, h1, h2⟩ := quietOp_run h
    effW_run (h2 w (fun _ => Mod.refl w)) h1
  have pure_ : pureOp P o ρ (fun v => K v w) → effW P (execOp ρ o) w K := fun h =>
    let ⟨v, h1, h2⟩ := pureOp_run h
    effW_run (h2 w) h1
  have new : newOp P o ρ w K → effW P (execOp ρ o) w K := fun h => by
    unfold newOp at h
    split at h
    · rename_i ob k hn
      unfold al at h
      simp only at h
      split at h
      · rename_i v hv
        exact effW_run (run_of_newRun hn hv) h
      · exact h.elim
    · exact h.elim
  have val : ∀ {s : Sem Value} {v : Value} {w' : World}, (execOp ρ o) = (do pure (Next.value (← s)) : Sem Next) → s.run P w = .ok v w' → K v w' → effW P (execOp ρ o) w K := fun e hr hk =>
    effW_run (w' := _) (by rw [e]; simp [Sem.run_bind, hr, Result.andThen]) hk
  have unit : ∀ {s : Sem Unit} {w' : World}, (execOp ρ o) = (do s; pure Next.skip : Sem Next) → s.run P w = .ok () w' → K undef w' → effW P (execOp ρ o) w K := fun e hr hk =>
    effW_skip (w' := _) (by rw [e]; simp [Sem.run_bind, hr, Result.andThen]) hk
  unfold denOp at h
  split at h
  case h_1 => exact new h
  case h_2 => exact new h
  case h_3 => exact new h
  case h_4 => exact new h
  case h_5 t a x hop =>
    split at h
    · rename_i a' ha hs hd
      obtain ⟨d, hd⟩ := Option.isSome_iff_exists.1 hd
      obtain ⟨w', h1, h2⟩ := stC_run (P := P) h
      refine unit (s := Instr.storeAt t (ρ a) (ρ x)) (by simp [execOp, hop]) ?_ h2
      have hs' : (ρ x).cells.size = P.cellsOf t := by simpa using hs
      simp [Instr.storeAt, Instr.sureAddr, storeVar, ha, Sem.run_bind, run_sizeOf hd, Result.andThen, hs', h1]
    · exact h.elim
  case h_6 t l c hop =>
    obtain ⟨a, n, c', w', h1, h2⟩ := h
    exact val (s := Instr.makeSlice t (ρ l) (ρ c)) (by simp [execOp, hop]) h1 h2
  case h_7 t m k x hop =>
    obtain ⟨w', h1, h2⟩ := h
    exact unit (s := Instr.mapUpdate t (ρ m) (ρ k) (ρ x)) (by simp [execOp, hop]) h1 h2
  case h_8 t m k x hop =>
    obtain ⟨w', h1, h2⟩ := h
    exact unit (s := Instr.mapUpdate t (ρ m) (ρ k) (ρ x)) (by simp [execOp, hop]) h1 h2
  case h_9 t x hop =>
    obtain ⟨a, w', h1, h2⟩ := h
    exact val (s := Instr.range t (ρ x)) (by simp [execOp, hop]) h1 h2
  case h_10 it isS hop =>
    cases isS
    · rcases h with ⟨w', h1, h2⟩ | ⟨k, v, w', h1, h2⟩
      · exact val (s := Instr.next (ρ it) false o.type) (by simp [execOp, hop]) h1 h2
      · exact val (s := Instr.next (ρ it) false o.type) (by simp [execOp, hop]) h1 h2
    · rcases h with ⟨w', h1, h2⟩ | ⟨k, v, w', h1, h2⟩
      · exact val (s := Instr.next (ρ it) true o.type) (by simp [execOp, hop]) h1 h2
      · exact val (s := Instr.next (ρ it) true o.type) (by simp [execOp, hop]) h1 h2
  case h_11 it hop =>
    obtain ⟨k, h⟩ := exOpt_out h
    obtain ⟨v, w', h1, h2⟩ := exOpt_out h
    exact val (s := Instr.entry (ρ it)) (by simp [execOp, hop]) h1 h2
  case h_12 src dst x hop =>
    split at h
    · obtain ⟨a, n, c, w', h1, h2⟩ := h
      exact val (s := Go.convert src dst (ρ x)) (by simp [execOp, hop]) h1 h2
    · obtain ⟨s, w', h1, h2⟩ := h
      exact val (s := Go.convert src dst (ρ x)) (by simp [execOp, hop]) h1 h2
    · exact pure_ h
  case h_13 c hop =>
    split at h
    · rename_i hc
      obtain ⟨a, n, c', w', h1, h2⟩ := h
      exact val (s := Builtin.append_ c.argTypes o.type (c.args.map ρ)) (by simp [execOp, hop, resolve, hc, invoke, Go.builtin]) h1 h2
    · rename_i hc
      obtain ⟨n, w', h1, h2⟩ := h
      exact val (s := Builtin.copy_ c.argTypes o.type (c.args.map ρ)) (by simp [execOp, hop, resolve, hc, invoke, Go.builtin]) h1 h2
    · rename_i hc
      obtain ⟨v, w', h1, h2⟩ := h
      exact val (s := Builtin.delete_ c.argTypes o.type (c.args.map ρ)) (by simp [execOp, hop, resolve, hc, invoke, Go.builtin]) h1 h2
    · rename_i hc
      obtain ⟨v, w', h1, h2⟩ := h
      exact val (s := Builtin.clear_ c.argTypes o.type (c.args.map ρ)) (by simp [execOp, hop, resolve, hc, invoke, Go.builtin]) h1 h2
    · exact quiet h
    · unfold callOp at h
      split at h
      · rename_i f args he
        exact effW_call h (run_of_pureRun he w)
      · rename_i v he
        exact effW_run (run_of_pureRun he w) h
      · exact h.elim
  case h_14 => exact quiet h



theorem denOp_sound {P : Program} {rest : List Oper} {o : Oper} {fr : Fr} {w : World} {K : Value → World → Prop} {Q : Exit → Act → World → Prop} {next : Act → World → Prop} (h : denOp P rest o (ev fr) w K) (hK : ∀ v w', K v w' → next (act (pt fr o.dst v)) w') : o.wp P (act fr) w next Q :=
  effW_wp (by rw [eval_act]; exact denOp_eff h) fun v w' h => by rw [put_act]; exact hK v w' h

theorem yielded_act {ops : Array Oper} {fr : Fr} {j d : Nat} (hd : (ops[j]?).bind (·.dst) = some d) : yielded ops (act fr).tmps j = match fr[d]? with
    | some (.bool b) => some b
    | _ => none := by
  cases h : fr[d]? with
  | none => simp [yielded, hd, act, h]
  | some v => cases v <;> simp [yielded, hd, act, h]
theorem yielded_none {ops : Array Oper} {fr : Fr} {j : Nat} (hd : (ops[j]?).bind (·.dst) = none) : yielded ops (act fr).tmps j = none := by
  simp [yielded, hd]
theorem set_same {fr : Fr} {d : Nat} {t : Bool} (h : fr.getD d undef = .bool t) : fr.set d (.bool t) = fr ∧ fr[d]? = some (.bool t) := by
  have h2 : fr[d]? = some (.bool t) := by
    rw [List.getD_eq_getElem?_getD] at h
    cases hd : fr[d]? with
    | none => rw [hd] at h; simp [undef] at h
    | some x => rw [hd] at h; simpa using h
  refine ⟨?_, h2⟩
  obtain ⟨hl, he⟩ := List.getElem?_eq_some_iff.1 h2
  rw [← he]; simp

theorem denOps_sound {P : Program} {ops : Array Oper} {Q : Exit → Act → World → Prop} {K : Fr → World → Prop} (hK : ∀ fr w, K fr w → Q .normal (act fr) w) : ∀ {l : List Oper} {fr : Fr} {w : World}, denOps P ops l K fr w → wpList P ops Q l (act fr) w
  | [], fr, w, h => hK fr w h
  | o :: r, fr, w, h => by
    have run : denOp P r o (ev fr) w (fun v w' => denOps P ops r K (pt fr o.dst v) w') → Region.wanted o (yielded ops (act fr).tmps) = true → wpList P ops Q (o :: r) (act fr) w := fun h hw => by
      unfold wpList
      rw [if_pos hw]
      exact .inl (denOp_sound h fun v w' h => denOps_sound hK h)
    have skip : denOps P ops r K (pt fr o.dst undef) w → Region.wanted o (yielded ops (act fr).tmps) = false → wpList P ops Q (o :: r) (act fr) w := fun h hw => by
      unfold wpList
      rw [if_neg (by rw [hw]; simp), put_act]
      exact denOps_sound hK h
    unfold denOps at h
    split at h
    · rename_i hg
      exact run h (by simp [Region.wanted, hg])
    · rename_i j b hg
      split at h
      · rename_i hd
        exact skip h (by simp [Region.wanted, hg, yielded_none hd])
      · rename_i d hd
        split at h
        · rename_i t ht
          obtain ⟨hs, h2⟩ := set_same ht
          cases t
          · simp only [brB, hs] at h
            split at h
            · exact run h (by simp [Region.wanted, hg, yielded_act hd, h2])
            · exact skip h (by simp [Region.wanted, hg, yielded_act hd, h2])
          · simp only [brB, hs] at h
            split at h
            · exact run h (by simp [Region.wanted, hg, yielded_act hd, h2])
            · exact skip h (by simp [Region.wanted, hg, yielded_act hd, h2])
        · rename_i hn
          refine skip h ?_
          have : yielded ops (act fr).tmps j = none := by
            rw [yielded_act hd]
            split
            · rename_i b' hb
              refine absurd ?_ (hn b')
              rw [List.getD_eq_getElem?_getD, hb]; rfl
            · rfl
          simp [Region.wanted, hg, this]

theorem quietOpQ_sound {P : Program} {o : Oper} {fr : Fr} {w : World} {K : Value → Prop} {next : Act → Prop} (h : denOpQ P o (ev fr) w K) (hK : ∀ v, K v → next (act (pt fr o.dst v))) : o.quiet P (act fr) (fun w' => Mod [] w w') next := by
  have quiet : quietOp P o (ev fr) w K → o.quiet P (act fr) (fun w' => Mod [] w w') next := fun h => by
    obtain ⟨v, h1, h2⟩ := quietOp_runM h
    refine ⟨v, fun w' hm => ?_, by rw [put_act]; exact hK v h1⟩
    unfold Oper.quietAt
    rw [eval_act, h2 w' hm]
    exact ⟨rfl, rfl⟩
  unfold denOpQ at h
  split at h
  case h_13 c hop =>
    split at h
    · exact h.elim
    · exact h.elim
    · exact h.elim
    · exact h.elim
    · exact quiet h
    · unfold callOpQ at h
      split at h
      · rename_i f args he
        obtain ⟨v, h1, h2⟩ := exRes_out h
        refine ⟨v, fun w' hm => ?_, by rw [put_act]; exact hK v h2⟩
        unfold Oper.quietAt
        rw [eval_act, run_of_pureRun he w']
        exact ⟨rfl, (h1 w' hm).mono fun e w'' ⟨a, b⟩ => ⟨a, by simpa using hm.trans b⟩⟩
      · rename_i v he
        refine ⟨v, fun w' hm => ?_, by rw [put_act]; exact hK v h⟩
        unfold Oper.quietAt
        rw [eval_act, run_of_pureRun he w']
        exact ⟨rfl, rfl⟩
      · exact h.elim
  case h_14 => exact quiet h
  all_goals exact h.elim

theorem denOpsQ_sound {P : Program} {ops : Array Oper} {w : World} {Q : Act → Prop} {K : Fr → Prop} (hK : ∀ fr, K fr → Q (act fr)) : ∀ {l : List Oper} {fr : Fr}, denOpsQ P ops w l K fr → wpQuiet P ops (fun w' => Mod [] w w') Q l (act fr)
  | [], fr, h => hK fr h
  | o :: r, fr, h => by
    have run : denOpQ P o (ev fr) w (fun v => denOpsQ P ops w r K (pt fr o.dst v)) → Region.wanted o (yielded ops (act fr).tmps) = true → wpQuiet P ops (fun w' => Mod [] w w') Q (o :: r) (act fr) := fun h hw => by
      unfold wpQuiet
      rw [if_pos hw]
      exact quietOpQ_sound h fun v h => denOpsQ_sound hK h
    have skip : denOpsQ P ops w r K (pt fr o.dst undef) → Region.wanted o (yielded ops (act fr).tmps) = false → wpQuiet P ops (fun w' => Mod [] w w') Q (o :: r) (act fr) := fun h hw => by
      unfold wpQuiet
      rw [if_neg (by rw [hw]; simp), put_act]
      exact denOpsQ_sound hK h
    unfold denOpsQ at h
    split at h
    · rename_i hg
      exact run h (by simp [Region.wanted, hg])
    · rename_i j b hg
      split at h
      · rename_i hd
        exact skip h (by simp [Region.wanted, hg, yielded_none hd])
      · rename_i d hd
        split at h
        · rename_i t ht
          obtain ⟨hs, h2⟩ := set_same ht
          cases t
          · simp only [brB, hs] at h
            split at h
            · exact run h (by simp [Region.wanted, hg, yielded_act hd, h2])
            · exact skip h (by simp [Region.wanted, hg, yielded_act hd, h2])
          · simp only [brB, hs] at h
            split at h
            · exact run h (by simp [Region.wanted, hg, yielded_act hd, h2])
            · exact skip h (by simp [Region.wanted, hg, yielded_act hd, h2])
        · rename_i hn
          refine skip h ?_
          have : yielded ops (act fr).tmps j = none := by
            rw [yielded_act hd]
            split
            · rename_i b' hb
              refine absurd ?_ (hn b')
              rw [List.getD_eq_getElem?_getD, hb]; rfl
            · rfl
          simp [Region.wanted, hg, this]

end Go.Proofs.Ytohgihgddknmmaa
