/- A range over a function whose rounds are told by 'den3': a law, out of the kit's laws on one round. -/
import Derived.Test.YtohgihgddknmmaaTrkS
import Derived.Test.YtohgihgddknmmaaRng
namespace Go.Proofs.Ytohgihgddknmmaa
open Go Go.RowKit
set_option linter.unusedVariables false
set_option linter.unusedSimpArgs false

theorem effW_wpIn {P : Program} {o : Oper} {a : Act} {w : World} {l : Nat} {K : Value → World → Prop} {Q : Exit → Act → World → Prop} {next : Act → World → Prop} (h : effW P (execOp a.eval o) w K) (hd : ∀ c, o.op ≠ .defer c) (hK : ∀ v w', K v w' → next (a.put o.dst v) w') : o.wpIn (Fence.wide.inRound l) 0 P a w next Q := by
  refine ⟨fun _ _ => trivial, ?_⟩
  rw [Oper.semAt_eq _ _ _ hd]
  unfold effW at h
  split at h
  · rename_i v w' he; rw [he]; exact hK _ _ h
  · rename_i w' he; rw [he]; exact hK _ _ h
  · rename_i f args w' he
    rw [he, Oper.uponIn_enter]
    refine ⟨fun hh => by simp [Fence.wide] at hh, ?_⟩
    refine (CallsIn.inRound l (callsIn_wide.2 h)).mono fun e w'' hv => ?_
    obtain ⟨v, rfl, hk⟩ := hv
    exact hK v w'' hk
  · exact h.elim
theorem lt_of_block' {w : World} {b : Nat} {o : Obj} (h : w.heap[b]? = some o) : b < w.heap.size := (Array.getElem?_eq_some_iff.1 h).1
def noDefer : List Oper → Bool
  | [] => true
  | o :: r => match o.op with
    | .defer _ => false
    | _ => match o.guard with
      | none => noDefer r
      | some _ => false
theorem noDefer_cons {o : Oper} {r : List Oper} (h : noDefer (o :: r) = true) : (∀ c, o.op ≠ .defer c) ∧ o.guard = none ∧ noDefer r = true := by
  unfold noDefer at h
  split at h
  · cases h
  · rename_i hn
    split at h
    · rename_i hg; exact ⟨hn, hg, h⟩
    · cases h
theorem den3In_sound {P : Program} {n l : Nat} {ops : Array Oper} {Q : Exit → Act → World → Prop} {K : FA → St → Prop} (hK : ∀ f s wa a, K f s → Inv f s wa → Rel n f a → Q .normal a wa) :
    ∀ {L : List Oper} {f : FA} {s : St} {wa : World} {a : Act}, noDefer L = true → (∀ o ∈ L, ∀ k, o.dst = some k → k < n) → den3Ops P ops L K f s → Inv f s wa → Rel n f a → wpListIn (Fence.wide.inRound l) 0 P ops Q L a wa
  | [], f, s, wa, a, _, _, h, hI, hR => hK f s wa a h hI hR
  | o :: r, f, s, wa, a, hnd, hn, h, hI, hR => by
    obtain ⟨hd, hg, hnd'⟩ := noDefer_cons hnd
    have hnr : ∀ o ∈ r, ∀ k, o.dst = some k → k < n := fun o ho => hn o (by simp [ho])
    unfold den3Ops at h
    rw [hg] at h
    refine wpListIn_plain hg fun K' hK' => ?_
    refine effW_wpIn (K := fun v wa' => ∃ t s', den3Ops P ops r K (putA f o.dst v t) s' ∧ OpI f s' v t wa' ∧ Later s s') (by rw [hR.eval]; exact (den3Op_both h hI).2) hd fun v w' ⟨t, s', h1, h2, _⟩ => ?_
    exact hK' _ _ (den3In_sound hK hnd' hnr h1 (h2.put o.dst) (hR.put o.dst (hn o (by simp)) v t))

/-- The two regions of a round: what is assigned, then, the loop's record (block l) having been turned, the body. -/
def roundD (P : Program) (c : Code) (l : Nat) (lp : Loop) (R : World → Option Addr → Nat → Nat → World → Prop) (f : FA) (s : St) : Prop := match c with
  | .rangeFunc _ _ (.region _ A false) (.block _ (.region _ B false)) => den3Ops P A A.toList (fun f s => flushD s fun s => s.w.heap[l]? = some (.loop lp) ∧ ∀ w2, Mod [l] s.w w2 → den3Ops P B B.toList (fun _ s => flushD (expose [0] s) fun s => match s.mem with
    | ⟨_, _, [.slice a n c], _⟩ :: _ => R w2 a n c s.w
    | _ => False) f ⟨s.mem, w2, [], [], true⟩) f s
  | _ => False
def roundOk (n : Nat) (c : Code) : Bool := match c with
  | .rangeFunc _ _ (.region _ A false) (.block _ (.region _ B false)) => noDefer A.toList && noDefer B.toList && dstB n A.toList && dstB n B.toList
  | _ => false
theorem putObj_mod (w : World) (l : Nat) (o : Obj) : Mod [l] w (w.putObj l o) := ⟨rfl, rfl, rfl, by simp [World.putObj], fun k hk hn => World.putObj_heap_other (by simpa using hn)⟩
theorem round_wpIn {P : Program} {n l : Nat} {g : Operand} {ps : Array Tmp} {assign body : Code} (hc : roundOk n (.rangeFunc g ps assign body) = true) {R : World → Option Addr → Nat → Nat → World → Prop} {f : FA} {s : St} {a : Act} {w : World} {lp : Loop}
    (h : roundD P (.rangeFunc g ps assign body) l lp R f s) (hI : Inv f s w) (hR : Rel n f a) :
    assign.wpIn (Fence.wide.inRound l) 0 P (Exit.then (fun a1 w1 => w1.heap[l]? = some (.loop lp) ∧ ∀ lp' : Loop, body.wpIn (Fence.wide.inRound l) 0 P (fun e _ w' => e = .normal ∧ ∃ a n c, R (w1.putObj l (.loop lp')) a n c w') a1 (w1.putObj l (.loop lp'))) fun _ _ _ => False) a w := by
  unfold roundD at h
  split at h
  · rename_i id1 A id2 id3 B hh
    cases hh
    simp only [roundOk, Bool.and_eq_true] at hc
    obtain ⟨⟨⟨c1, c2⟩, c3⟩, c4⟩ := hc
    refine wpIn_region_list (den3In_sound (n := n) (fun f1 s1 w1 a1 h1 hI1 hR1 => ?_) c1 (dstB_mem c3) h hI hR)
    obtain ⟨s2, ⟨hl, h2⟩, hI2, hw2, hm2, _⟩ := flush_out h1 hI1
    rw [hw2] at hl h2
    refine ⟨hl, fun lp' => ?_⟩
    have hne : ∀ (k : Nat) tb, s2.mem[k]? = some tb → tb.b ≠ l := fun k tb hk e => by
      have := hI2.at_ k tb hk
      rw [e, hl] at this; cases this
    have hI3 : Inv f1 ⟨s2.mem, w1.putObj l (.loop lp'), [], [], true⟩ (w1.putObj l (.loop lp')) :=
      ⟨fun k tb hk => by rw [World.putObj_heap_other (hne k tb hk)]; exact hI2.at_ k tb hk, hI2.nd, hI2.tags, (Mod.refl _).less (by simp [idsB]), by simp, fun _ => rfl⟩
    refine wpIn_block (wpIn_region_list (den3In_sound (n := n) (fun f4 s4 w4 a4 h4 hI4 hR4 => ?_) c2 (dstB_mem c4) (h2 _ (putObj_mod w1 l _)) hI3 hR1))
    obtain ⟨s5, h5, hI5, hw5, hm5, _⟩ := flush_out h4 (expose_inv hI4)
    split at h5
    · rw [hw5] at h5; exact ⟨rfl, _, _, _, h5⟩
    · exact h5.elim
  · exact h.elim

/-! ### the loop -/
/-- The iterator hands N, one by one; what it is told by X, what the caller says of its own by J. -/
def SeqN {α : Type} (P : Program) (gf : FuncId) (lb : Array Value) (encs : α → Array Value) (w0 : World) (S : List Nat) (X : Nat → α → World → Prop) (N B : Nat) : Prop :=
  ∀ (l : Nat) (J : List α → World → Prop), (∀ pre W W', J pre W → Mod [] W W' → J pre W') → (∀ pre W, J pre W → Mod S w0 W ∧ B ≤ W.heap.size) →
    (∀ pre x W1, J pre W1 → X pre.length x W1 → pre.length < N → YieldAt Fence.wide 0 P l (encs x) W1 fun e W' => e = .returned (.bool true) ∧ J (pre ++ [x]) W') →
    ∀ W, J [] W → CallsIn Fence.wide 1 P gf (#[.func (.yield l) #[] #[]] ++ lb) W fun e W' => (∃ v, e = .returned v) ∧ ∃ xs, xs.length = N ∧ J xs W'

theorem wpIn_range_seq {α : Type} {P : Program} {g : Operand} {ps : Array Tmp} {assign body : Code} {Q : Exit → Act → World → Prop} {a : Act} {w : World}
    {gf : Nat} {lb : Array Value} (hg : a.eval g = .func (.func gf) #[] lb) (eg : ∀ args w, (callFunc gf args).run P w = .ok (.enter gf args) w)
    {encs : α → Array Value} {S : List Nat} {X : Nat → α → World → Prop} {N : Nat} (hseq : SeqN P gf lb encs w S X N (w.heap.size + 2)) (hps : ∀ x, (encs x).size = ps.size) (hS : ∀ i ∈ S, i < w.heap.size)
    (I : List α → World → Prop) (hIm : ∀ s W W', I s W → Mod [] W W' → I s W') (hIp : ∀ s W l (o : Loop), l = w.heap.size + 1 → I s W → I s (W.putObj l (.loop o))) (hIS : ∀ s W, I s W → Mod S w W) (h0 : I [] w)
    (hround : ∀ (pre : List α) (x : α) (W : World) (lp : Loop), I pre W → pre.length < N → X pre.length x W → W.heap[w.heap.size + 1]? = some (.loop lp) → w.heap.size < W.heap.size →
      assign.wpIn (Fence.wide.inRound (w.heap.size + 1)) 0 P (Exit.then (fun a1 W1 => W1.heap[w.heap.size + 1]? = some (.loop lp) ∧ ∀ lp' : Loop, body.wpIn (Fence.wide.inRound (w.heap.size + 1)) 0 P
        (fun e _ W' => e = .normal ∧ W'.heap[w.heap.size + 1]? = some (.loop lp') ∧ W'.heap[w.heap.size]? = W.heap[w.heap.size]? ∧ I (pre ++ [x]) W') a1 (W1.putObj (w.heap.size + 1) (.loop lp'))) fun _ _ _ => False)
        { tmps := (ps.zip (encs x)).foldl (fun t (p, v) => t.setIfInBounds p v) a.tmps, defers := [] } W)
    (hdone : ∀ (W : World) xs, xs.length = N → I xs W → W.heap[w.heap.size]? = some (.deferred (some [])) → Q .normal { a with defers := { target := .collected w.heap.size, args := #[] } :: a.defers } W) :
    (Code.rangeFunc g ps assign body).wpIn Fence.wide 2 P Q a w := by
  refine wpIn_rangeFunc ?_
  intro fn hfn
  have hro : Fence.wide.round = none := rfl
  rw [hro]
  obtain ⟨rec, hrec⟩ : ∃ rec : LoopState → Option Code → Loop, rec = fun st pe => { state := st, pending := pe, fn, tmps := a.tmps, params := ps, assign, body, defers := w.heap.size } := ⟨_, rfl⟩
  obtain ⟨W1, hW1⟩ : ∃ W1, (w.alloc (.deferred (some []))).alloc (.loop (rec .ready none)) = W1 := ⟨_, rfl⟩
  have hL1 : W1.heap[w.heap.size + 1]? = some (.loop (rec .ready none)) := by
    rw [← hW1]; have := World.alloc_heap_new (w.alloc (.deferred (some []))) (.loop (rec .ready none)); rwa [World.size_alloc] at this
  have hK1 : W1.heap[w.heap.size]? = some (.deferred (some [])) := by
    rw [← hW1]; exact (Below.heap_alloc _ _ _ (by simp)).trans (World.alloc_heap_new w _)
  have M : ∀ (x : World) (o : Obj), Mod [] x (x.alloc o) := fun x o => Mod.of_below ((Below.refl _ _).alloc (Nat.le_refl _) _)
  have hI1 : I [] W1 := by rw [← hW1]; exact hIm _ _ _ (hIm _ _ _ h0 (M _ _)) (M _ _)
  refine ⟨w.heap.size + 1, [{ target := .collected w.heap.size, args := #[] }], W1, { target := .fn (.func gf) lb, args := #[.func (.yield (w.heap.size + 1)) #[] #[]] }, W1, gf,
    #[.func (.yield (w.heap.size + 1)) #[] #[]] ++ lb, W1, ?_, ?_, fun _ _ => trivial, ?_, fun h => (by simp [Fence.wide] at h), ?_⟩
  · rw [← hW1, hrec]; exact run_enterLoop_outer _ _ _ _ _
  · simp only [resolve, hg]
    simp [go_sem]
  · simp [invoke, go_sem, eg]
  · refine (hseq (w.heap.size + 1)
      (fun pre W => I pre W ∧ W.heap[w.heap.size + 1]? = some (.loop (rec .ready none)) ∧ W.heap[w.heap.size]? = some (.deferred (some [])))
      ?_ ?_ ?_ W1 ⟨hI1, hL1, hK1⟩).mono ?_
    · rintro pre W W' ⟨hi, hl, hk⟩ hM
      exact ⟨hIm _ _ _ hi hM, (hM.block _ (lt_of_block' hl) (by simp)).trans hl, (hM.block _ (lt_of_block' hk) (by simp)).trans hk⟩
    · rintro pre W ⟨hi, hl, hk⟩
      exact ⟨hIS _ _ hi, lt_of_block' hl⟩
    · rintro pre x W ⟨hi, hl, hk⟩ hx hlen
      have hlt := lt_of_block' hl
      have hy := run_yield (P := P) (args := encs x) hl (by rw [hrec]; exact hps x)
      rw [hrec] at hy
      refine ⟨fn, _, assign, body, hy, roundIn_of_wpIn trivial ?_⟩
      refine wpIn_mono (hround pre x W (rec .ready none) hi hlen hx hl (by omega)) ?_
      intro e a1 W2 hq
      cases e with
      | normal =>
        obtain ⟨hl2, hb⟩ := hq
        refine ⟨_, run_beginRound hl2 (by rw [hrec]), ?_⟩
        refine wpIn_mono (hb { rec .ready none with state := .busy }) ?_
        rintro e a3 W3 ⟨rfl, hr1, hD3, hi3⟩
        have hr := run_endRound (P := P) none hr1
        have hlt3 := lt_of_block' hr1
        refine ⟨_, _, hr, rfl, ⟨hIp _ _ _ _ rfl hi3, ?_, ?_⟩⟩
        · rw [World.putObj_heap_same hlt3, hrec]; rfl
        · exact (World.putObj_heap_other (by omega)).trans (hD3.trans hk)
      | _ => exact hq.elim
    · rintro e W2 ⟨⟨v, rfl⟩, xs, hxs, hi, hl, hk⟩
      exact ⟨none, _, by have := run_endLoop (P := P) hl (by rw [hrec]; simp); rw [hrec] at this; exact this, hdone _ xs hxs (hIp _ _ _ _ rfl hi) ((World.putObj_heap_other (by omega)).trans hk)⟩
theorem foldZ {ts : Array Value} {q : Tmp} {v : Value} : ((#[q] : Array Tmp).zip #[v]).foldl (fun t (x : Tmp × Value) => match x with | (p, v) => t.setIfInBounds p v) ts = ts.setIfInBounds q v := by simp
/-- Where one round starts. -/
theorem round_inv {f : FA} {d q b : Nat} {T : TypeId} {cs : List Value} {x : Value} {w : World} {js : Nat → Value} (hb : w.heap[b]? = some (.cells cs.toArray T)) (hf : f = ⟨[(d, .pointer (some ⟨b, 0, none⟩), some (0, 0)), (q, x, none)], js⟩) : Inv f ⟨[⟨b, T, cs, false⟩], w, [], [], true⟩ w := by
  subst hf
  have get : ∀ (k : Nat) (tb : TB), [(⟨b, T, cs, false⟩ : TB)][k]? = some tb → k = 0 ∧ tb = ⟨b, T, cs, false⟩ := fun k tb h => by
    cases k with
    | zero => simp at h; exact ⟨rfl, h.symm⟩
    | succ k => simp at h
  refine ⟨fun k tb hk => by obtain ⟨_, rfl⟩ := get k tb hk; exact hb, fun i j x y hx hy _ => by rw [(get i x hx).1, (get j y hy).1], fun i k off ht => ?_, (Mod.refl w).less (by simp [idsB]), by simp, fun _ => rfl⟩
  simp only [FA.tag, lkT] at ht
  split at ht
  · rename_i hi
    have hi : d = i := Nat.eq_of_beq_eq_true hi
    subst hi
    cases ht
    exact ⟨_, rfl, by simp [FA.get, lkV]⟩
  · split at ht <;> cases ht
theorem round_rel {n d q : Nat} {p x : Value} {t : Tag} {a : Act} (h1 : a.tmps.getD d undef = p) (h2 : a.tmps.getD q undef = x) (hd : a.defers = []) (hn : a.tmps.size = n) : Rel n ⟨[(d, p, t), (q, x, none)], fun i => a.tmps.getD i undef⟩ a :=
  ⟨fun i => by
    simp only [FA.get, lkV]
    split
    · rename_i hi
      rw [← Nat.eq_of_beq_eq_true hi, h1]
    · split
      · rename_i hi
        rw [← Nat.eq_of_beq_eq_true hi, h2]
      · rfl, hd, hn⟩
end Go.Proofs.Ytohgihgddknmmaa
