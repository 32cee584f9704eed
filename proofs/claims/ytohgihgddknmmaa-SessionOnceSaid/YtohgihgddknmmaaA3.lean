/- Calls and messages: of one's own. -/
import Derived.Test.YtohgihgddknmmaaA2
import Derived.Test.YtohgihgddknmmaaGenA3
namespace Go.Proofs.Ytohgihgddknmmaa
open Go Go.RowKit
set_option linter.unusedVariables false
set_option linter.unusedSimpArgs false

/-- A call as it is held: where its lists lie. -/
structure CV where
  x : PCall
  rs : Sl
  ts : Sl
def CV.cs (q : CV) : List Value := [.int .i64 q.x.c, .int .i64 q.x.n, .int .i64 q.x.op.kind, .string q.x.op.part.t, .int .i64 q.x.op.part.n, .int .i64 q.x.op.n, .int .i64 q.x.op.off, .int .i64 q.x.op.b.prod, .int .i64 q.x.op.b.epoch, .int .i64 q.x.op.b.seq, .slice q.rs.a q.rs.n q.rs.c, .string q.x.op.g, .string q.x.op.m, .int .i64 q.x.op.gen, .bool q.x.op.robin, .slice q.ts.a q.ts.n q.ts.c]
def CV.v (q : CV) : Value := .agg #[.int .i64 q.x.c, .int .i64 q.x.n, .int .i64 q.x.op.kind, .string q.x.op.part.t, .int .i64 q.x.op.part.n, .int .i64 q.x.op.n, .int .i64 q.x.op.off, .int .i64 q.x.op.b.prod, .int .i64 q.x.op.b.epoch, .int .i64 q.x.op.b.seq, .slice q.rs.a q.rs.n q.rs.c, .string q.x.op.g, .string q.x.op.m, .int .i64 q.x.op.gen, .bool q.x.op.robin, .slice q.ts.a q.ts.n q.ts.c]
theorem CV.cs_len (q : CV) : q.cs.length = 16 := rfl
theorem CV.cs_one (q : CV) : ∀ u ∈ q.cs, u.oneCell' = true := by simp [CV.cs, Value.oneCell']
theorem CV.cs_leaf (q : CV) : q.cs.all leafB = true := rfl
structure PMail where
  kind : Int
  fr : Int
  to : Int
  view : Int
  normal : Int
  last : Int
  commit : Int
  nonce : Int
  base : Int
  n : Int
  calls : List PCall
  r : PRep
  deriving DecidableEq
def PMail.v (m : PMail) (s f p : Sl) : Value := .agg #[.int .i64 m.kind, .int .i64 m.fr, .int .i64 m.to, .int .i64 m.view, .int .i64 m.normal, .int .i64 m.last, .int .i64 m.commit, .int .i64 m.nonce, .int .i64 m.base, .int .i64 m.n, .slice s.a s.n s.c, .int .i64 m.r.e, .int .i64 m.r.off, .int .i64 m.r.n, .int .i64 m.r.gen, .slice f.a f.n f.c, .slice p.a p.n p.c]
def PMail.cs (m : PMail) (s f p : Sl) : List Value := [.int .i64 m.kind, .int .i64 m.fr, .int .i64 m.to, .int .i64 m.view, .int .i64 m.normal, .int .i64 m.last, .int .i64 m.commit, .int .i64 m.nonce, .int .i64 m.base, .int .i64 m.n, .slice s.a s.n s.c, .int .i64 m.r.e, .int .i64 m.r.off, .int .i64 m.r.n, .int .i64 m.r.gen, .slice f.a f.n f.c, .slice p.a p.n p.c]
def rep00 : PRep := ⟨0, 0, 0, 0, [], []⟩
def mail0 : PMail := ⟨0, 0, 0, 0, 0, 0, 0, 0, 0, 0, [], rep00⟩
def CallsAt (w : World) (s : Sl) (xs : List PCall) : Prop := ∃ ll : List CV, SlAt w 16 CV.cs s.a s.n ll ∧ (∀ q ∈ ll, OpAt w q.x.op q.rs q.ts) ∧ ll.map (·.x) = xs
def CallsOwn (w : World) (base : Nat) (s : Sl) (xs : List PCall) : Prop := ∃ ll : List CV, Row w base 48 16 CV.cs s.a s.n s.c ll ∧ (∀ q ∈ ll, OpOwn w base q.x.op q.rs q.ts) ∧ ll.map (·.x) = xs
theorem CallsOwn.at {w : World} {base : Nat} {s : Sl} {xs : List PCall} (h : CallsOwn w base s xs) : CallsAt w s xs := by
  obtain ⟨ll, h1, h2, h3⟩ := h; exact ⟨ll, h1.sl CV.cs_len, fun q hq => (h2 q hq).at, h3⟩
theorem CallsAt.keep0 {w w' : World} {s : Sl} {xs : List PCall} (h : CallsAt w s xs) (M : Mod [] w w') : CallsAt w' s xs := by
  obtain ⟨ll, h1, h2, h3⟩ := h; exact ⟨ll, h1.keep0 M, fun q hq => (h2 q hq).keep0 M, h3⟩
theorem CallsOwn.keep0 {w w' : World} {base : Nat} {s : Sl} {xs : List PCall} (h : CallsOwn w base s xs) (M : Mod [] w w') : CallsOwn w' base s xs := by
  obtain ⟨ll, h1, h2, h3⟩ := h; exact ⟨ll, h1.keep0 M, fun q hq => (h2 q hq).keep0 M, h3⟩
theorem CallsOwn.rebase {w : World} {base base' : Nat} {s : Sl} {xs : List PCall} (h : CallsOwn w base s xs) (hb : base' ≤ base) : CallsOwn w base' s xs := by
  obtain ⟨ll, h1, h2, h3⟩ := h; exact ⟨ll, h1.rebase hb, fun q hq => (h2 q hq).rebase hb, h3⟩
structure MailAt (w : World) (m : PMail) (s f p : Sl) : Prop where
  calls : CallsAt w s m.calls
  rep : RepAt w m.r f p
structure MailOwn (w : World) (base : Nat) (m : PMail) (s f p : Sl) : Prop where
  calls : CallsOwn w base s m.calls
  rep : RepOwn w base m.r f p
theorem MailOwn.at {w : World} {base : Nat} {m : PMail} {s f p : Sl} (h : MailOwn w base m s f p) : MailAt w m s f p := ⟨h.calls.at, h.rep.at⟩
theorem MailAt.keep0 {w w' : World} {m : PMail} {s f p : Sl} (h : MailAt w m s f p) (M : Mod [] w w') : MailAt w' m s f p := ⟨h.calls.keep0 M, h.rep.keep0 M⟩
theorem MailOwn.keep0 {w w' : World} {base : Nat} {m : PMail} {s f p : Sl} (h : MailOwn w base m s f p) (M : Mod [] w w') : MailOwn w' base m s f p := ⟨h.calls.keep0 M, h.rep.keep0 M⟩
theorem MailOwn.rebase {w : World} {base base' : Nat} {m : PMail} {s f p : Sl} (h : MailOwn w base m s f p) (hb : base' ≤ base) : MailOwn w base' m s f p := ⟨h.calls.rebase hb, h.rep.rebase hb⟩
theorem OpOwn.keep {S : List Nat} {w w' : World} {base : Nat} {o : POp} {rs ts : Sl} (h : OpOwn w base o rs ts) (M : Mod S w w') (hS : ∀ k ∈ S, ∀ cs T, w.heap[k]? = some (.cells cs T) → T ≠ 90 ∧ T ≠ 9) : OpOwn w' base o rs ts :=
  ⟨h.recs.keep M fun ad ha hk => by obtain ⟨_, cur, hc⟩ := h.recs.block ad ha; exact (hS _ hk _ _ hc).1 rfl,
   h.topics.keep M fun ad ha hk => by obtain ⟨_, cur, hc⟩ := h.topics.block ad ha; exact (hS _ hk _ _ hc).2 rfl, h.lr, h.lt⟩
/-- A new variable was written: older rows stand. -/
theorem OpOwn.keepB {S : List Nat} {w w' : World} {base : Nat} {o : POp} {rs ts : Sl} (h : OpOwn w base o rs ts) (M : Mod S w w') (hS : ∀ k ∈ S, k < base) : OpOwn w' base o rs ts :=
  ⟨h.recs.keep M fun ad ha hk => by have := h.recs.base ad ha; have := hS _ hk; omega, h.topics.keep M fun ad ha hk => by have := h.topics.base ad ha; have := hS _ hk; omega, h.lr, h.lt⟩
theorem RepOwn.keepB {S : List Nat} {w w' : World} {base : Nat} {r : PRep} {f p : Sl} (h : RepOwn w base r f p) (M : Mod S w w') (hS : ∀ k ∈ S, k < base) : RepOwn w' base r f p :=
  ⟨h.found.keep M fun ad ha hk => by have := h.found.base ad ha; have := hS _ hk; omega, h.parts.keep M fun ad ha hk => by have := h.parts.base ad ha; have := hS _ hk; omega, h.lf, h.lp⟩
theorem CallsOwn.keepB {S : List Nat} {w w' : World} {base : Nat} {s : Sl} {xs : List PCall} (h : CallsOwn w base s xs) (M : Mod S w w') (hS : ∀ k ∈ S, k < base) : CallsOwn w' base s xs := by
  obtain ⟨ll, h1, h2, h3⟩ := h
  exact ⟨ll, h1.keep M fun ad ha hk => by have := h1.base ad ha; have := hS _ hk; omega, fun q hq => (h2 q hq).keepB M hS, h3⟩
theorem MailOwn.keepB {S : List Nat} {w w' : World} {base : Nat} {m : PMail} {s f p : Sl} (h : MailOwn w base m s f p) (M : Mod S w w') (hS : ∀ k ∈ S, k < base) : MailOwn w' base m s f p := ⟨h.calls.keepB M hS, h.rep.keepB M hS⟩
theorem infoR : (Try.prog.info? 90).map (fun i => (i.zero, i.size, i.bytes)) = some (some (.agg #[.bool false, .string ByteArray.empty, .bool false, .string ByteArray.empty]), 4, 48) := by kernel_rfl
theorem infoS : (Try.prog.info? 9).map (fun i => (i.zero, i.size, i.bytes)) = some (some (.string ByteArray.empty), 1, 16) := by kernel_rfl
def cv0 : CV := ⟨⟨0, 0, op0⟩, nilS, nilS⟩
theorem infoCall : (Try.prog.info? 48).map (fun i => (i.zero, i.size, i.bytes)) = some (some (.agg #[.int .i64 0, .int .i64 0, .int .i64 0, .string ByteArray.empty, .int .i64 0, .int .i64 0, .int .i64 0, .int .i64 0, .int .i64 0, .int .i64 0, .slice none 0 0, .string ByteArray.empty, .string ByteArray.empty, .int .i64 0, .bool false, .slice none 0 0]), 16, 184) := by kernel_rfl
theorem CloneS_ok {w : World} {s : Sl} {l : List ByteArray} (h : SlAt w 1 encS s.a s.n l) (hl : l.length ≤ 1000000) :
    Calls Try.prog 51 #[.slice s.a s.n s.c] w fun e w' => ∃ v, e = .returned v ∧ ∃ s' : Sl, v = .slice s'.a s'.n s'.c ∧ Row w' w.heap.size 9 1 encS s'.a s'.n s'.c l ∧ Mod [] w w' := by
  refine slices_Clone_string_string_go ?_
  refine brB_of (fun h0 => ?_) fun _ => ?_
  · have hl0 : l = [] := by
      cases l with
      | nil => rfl
      | cons x r => obtain ⟨ad, ha, _⟩ := h.2 0 x rfl; rw [ha] at h0; cases h0
    subst hl0
    exact ⟨⟨none, 0, 0⟩, rfl, Row.nil .., Mod.refl _⟩
  · refine al_of fun b w1 c1 M1 f1 => ?_
    obtain ⟨i0, hi, hz0, hz1, hz2⟩ := info_parts infoS
    refine appendAll_of (Row.fresh c1 f1) Try.underlying33 hi hz0 hz1 hz2 rfl (by decide) (h.keep0 M1) encS_len encS_one (by simp; omega) (by simp; unfold maxLen; omega) M1.size fun a' n' c' w2 hR hM => ?_
    exact ⟨⟨a', n', c'⟩, rfl, by simpa using hR, M1.go0 (hM [b] (by simp)) (by simpa using f1)⟩

theorem CloneR_ok {w : World} {s : Sl} {l : List PRec} (h : SlAt w 4 encR s.a s.n l) (hl : l.length ≤ 1000000) :
    Calls Try.prog 52 #[.slice s.a s.n s.c] w fun e w' => ∃ v, e = .returned v ∧ ∃ s' : Sl, v = .slice s'.a s'.n s'.c ∧ Row w' w.heap.size 90 4 encR s'.a s'.n s'.c l ∧ Mod [] w w' := by
  refine slices_Clone_api_Record_api_Record_go ?_
  refine brB_of (fun h0 => ?_) fun _ => ?_
  · have hl0 : l = [] := by
      cases l with
      | nil => rfl
      | cons x r => obtain ⟨ad, ha, _⟩ := h.2 0 x rfl; rw [ha] at h0; cases h0
    subst hl0
    exact ⟨⟨none, 0, 0⟩, rfl, Row.nil .., Mod.refl _⟩
  · refine al_of fun b w1 c1 M1 f1 => ?_
    obtain ⟨i0, hi, hz0, hz1, hz2⟩ := info_parts infoR
    refine appendAll_of (Row.fresh c1 f1) Try.underlying30 hi hz0 hz1 hz2 rfl (by decide) (h.keep0 M1) encR_len encR_one (by simp; omega) (by simp; unfold maxLen; omega) M1.size fun a' n' c' w2 hR hM => ?_
    exact ⟨⟨a', n', c'⟩, rfl, by simpa using hR, M1.go0 (hM [b] (by simp)) (by simpa using f1)⟩

theorem rowS_block {α : Type} {w : World} {base T sz : Nat} {enc : α → List Value} {a : Option Addr} {n c : Nat} {l : List α} (h : Row w base T sz enc a n c l) : ∀ k ∈ rowS a, base ≤ k ∧ k < w.heap.size ∧ ∃ cur, w.heap[k]? = some (.cells cur T) := by
  cases a with
  | none => simp [rowS]
  | some ad => intro k hk; simp [rowS] at hk; subst hk; obtain ⟨h1, cur, h2⟩ := h.block ad rfl; exact ⟨h1, lt_of_block h2, cur, h2⟩
set_option maxHeartbeats 1000000 in
theorem Own_ok {w : World} {m : PMail} {s f p : Sl} (h : MailAt w m s f p) (hl : m.calls.length ≤ 100000) :
    Calls Try.prog 35 #[m.v s f p] w fun e w' => ∃ v, e = .returned v ∧ ∃ s' f' p' : Sl, v = m.v s' f' p' ∧ MailOwn w' w.heap.size m s' f' p' ∧ Mod [] w w' := by
  obtain ⟨⟨ll, hS, hO, hll⟩, hR⟩ := h
  have hlen : ll.length ≤ 100000 := by rw [← hll] at hl; simpa using hl
  have hn := hS.1
  refine message_Own_go ?_
  intro b1 f1 b2 f2 w1 A1
  have l2 := A1.lt b2 (by simp)
  have l1 := A1.lt b1 (by simp)
  have s1 := A1.mod.size
  refine message_Own_rule1 (fun mm a n c x w' => ∃ (k : Nat) (l : List CV), x = k ∧ k ≤ ll.length ∧ Row w' w1.heap.size 48 16 CV.cs a n c l ∧ (∀ q ∈ l, OpOwn w' w1.heap.size q.x.op q.rs q.ts) ∧ l.map (·.x) = (ll.take k).map (·.x) ∧ Mod [] w1 w' ∧ mm = ll.length - k) ll.length
    ⟨0, [], rfl, by omega, Row.nil .., by simp, by simp, Mod.refl _, rfl⟩ ?_
  rintro mm a n c x w2 ⟨k, l, rfl, hk, hRow, hOw, hlm, M2, rfl⟩
  have s2 := M2.size
  have N2 := A1.mod.go0 M2 (by simp)
  refine brB_dec (fun hlt => ?_) fun hge => ?_
  · obtain ⟨q, hq⟩ : ∃ q, ll[k]? = some q := ⟨_, List.getElem?_eq_getElem (by omega)⟩
    refine (hS.keep0 N2).ix hq fun ad ha => ldInt_of (x := q.x.c) (by simpa [add_zero] using ha 0 _ rfl) (ldInt_of (ha 1 _ rfl) (ldInt_of (ha 2 _ rfl) (ldStr_of (ha 3 _ rfl) (ldInt_of (ha 4 _ rfl) (ldInt_of (ha 5 _ rfl) (ldInt_of (ha 6 _ rfl) (ldInt_of (ha 7 _ rfl) (ldInt_of (ha 8 _ rfl) (ldInt_of (ha 9 _ rfl) (ldSlice_of (ha 10 _ rfl) (ldStr_of (ha 11 _ rfl) (ldStr_of (ha 12 _ rfl) (ldInt_of (ha 13 _ rfl) (ldBool_of (ha 14 _ rfl) (ldSlice_of (ha 15 _ rfl) ?_)))))))))))))))
    intro b3 f3 w3 A3
    have l3 := A3.lt b3 (by simp)
    have s3 := A3.mod.size
    have hop := (hO q (List.mem_of_getElem? hq)).keep0 (N2.go0 A3.mod (by simp))
    refine (CloneS_ok (s := q.ts) hop.topics hop.lt).mono ?_
    rintro e w4 ⟨_, rfl, ts', rfl, hT, M4⟩
    refine ⟨_, _, _, rfl, Keep.of0 M4, rfl, ?_⟩
    have s4 := M4.size
    refine (CloneR_ok (s := q.rs) (hop.recs.keep0 M4) hop.lr).mono ?_
    rintro e w5 ⟨_, rfl, rs', rfl, hRc, M5⟩
    refine ⟨_, _, _, rfl, Keep.of0 M5, ?_⟩
    have s5 := M5.size
    intro w6 A6
    have s6 := A6.mod.size
    have K5 : Mod [] w2 w5 := (A3.mod.go0 M4 (by simp)).go0 M5 (by simp)
    have K6 : Mod [] w2 w6 := K5.go0 A6.mod (by simpa using f3)
    have hnew : OpOwn w6 w1.heap.size q.x.op rs' ts' := by
      refine OpOwn.rebase (base := w3.heap.size) ?_ (by omega)
      exact OpOwn.keepB ⟨hRc.rebase (by omega), hT.keep0 M5, hop.lr, hop.lt⟩ A6.mod (by simp; omega)
    refine al_of fun b7 w7 c7 M7 f7 => ?_
    have s7 := M7.size
    have hll' : l.length ≤ 100000 := by have := congrArg List.length hlm; simp at this; omega
    obtain ⟨i0, hi, hz0, hz1, hz2⟩ := info_parts infoCall
    refine append_of (x := (⟨q.x, rs', ts'⟩ : CV)) ((hRow.keep0 K6).keep0 M7) Try.underlying38 hi hz0 hz1 hz2 rfl (by decide) c7 rfl (CV.cs_one _) (by omega) (by unfold maxLen; omega) (by omega) fun a' c' w8 hR8 hM8 => ?_
    have M8 := hM8 _ (rowS_ok a)
    have hrow := rowS_block hRow
    have K7 := K6.go0 M7 (by simp)
    have kp : ∀ {o rs ts}, OpOwn w7 w1.heap.size o rs ts → OpOwn w8 w1.heap.size o rs ts := fun hh => hh.keep M8 fun k hk cs T hc => by
      obtain ⟨_, _, cur, hcur⟩ := hrow k hk
      rw [K7.keep0 hcur] at hc; cases hc; decide
    refine ⟨Keep.of M8 fun b hb _ hb' => ?_, ?_⟩
    · have := hrow b hb'; simp at hb; omega
    refine message_Own_leaf1 (ll.length - (k + 1)) (by omega) ⟨k + 1, _, by rw [wrap_id (by omega) (by omega)]; omega, by omega, hR8, fun y hy => ?_, ?_, (M2.go0 K7 (by simp)).go0 M8 fun i hi => (hrow i hi).1, rfl⟩
    · rcases List.mem_append.1 hy with hy | hy
      · exact kp ((hOw y hy).keep0 K7)
      · simp at hy; subst hy; exact kp (hnew.keep0 M7)
    · rw [List.take_add_one, hq, List.map_append, List.map_append, hlm]; rfl
  · have hk' : k = ll.length := by omega
    subst hk'
    rw [List.take_length, hll] at hlm
    intro w3 A3
    have N3 := N2.go0 A3.mod (by simpa using f1)
    have s3 := A3.mod.size
    have h3 := hR.keep0 N3
    refine (CloneF_ok (s := f) h3.found h3.lf).mono ?_
    rintro e w4 ⟨_, rfl, f', rfl, hF, M4⟩
    refine ⟨_, _, _, rfl, Keep.of0 M4, rfl, ?_⟩
    have s4 := M4.size
    have h4 := h3.keep0 M4
    refine (CloneP_ok (s := p) h4.parts h4.lp).mono ?_
    rintro e w5 ⟨_, rfl, p', rfl, hP, M5⟩
    refine ⟨_, _, _, rfl, Keep.of0 M5, ?_⟩
    have s5 := M5.size
    intro w6 A6
    have hC3 : CallsOwn w3 w1.heap.size ⟨a, n, c⟩ m.calls := CallsOwn.keepB ⟨l, hRow, hOw, hlm⟩ A3.mod (by simp; omega)
    have hM5 : MailOwn w5 w1.heap.size m ⟨a, n, c⟩ f' p' := ⟨(hC3.keep0 M4).keep0 M5, (hF.keep0 M5).rebase (by omega), hP.rebase (by omega), hR.lf, hR.lp⟩
    refine ⟨⟨a, n, c⟩, f', p', rfl, (hM5.keepB A6.mod (by simp; omega)).rebase s1, ((N3.go0 M4 (by simp)).go0 M5 (by simp)).go0 A6.mod (by simp; omega)⟩
end Go.Proofs.Ytohgihgddknmmaa
