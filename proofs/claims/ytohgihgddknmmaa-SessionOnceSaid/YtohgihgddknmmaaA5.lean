/- A client's object: what its methods do. -/
import Derived.Test.YtohgihgddknmmaaA4
import Derived.Test.YtohgihgddknmmaaGenA4
namespace Go.Proofs.Ytohgihgddknmmaa
open Go Go.RowKit
set_option linter.unusedVariables false
set_option linter.unusedSimpArgs false

theorem ldCV_of {w : World} {a : Addr} {q : CV} {F : Int → Int → Int → ByteArray → Int → Int → Int → Int → Int → Int → Option Addr → Nat → Nat → ByteArray → ByteArray → Int → Bool → Option Addr → Nat → Nat → Prop} (h : ∀ j v, q.cs[j]? = some v → w.cell? (a.add j) = some v) (hF : F q.x.c q.x.n q.x.op.kind q.x.op.part.t q.x.op.part.n q.x.op.n q.x.op.off q.x.op.b.prod q.x.op.b.epoch q.x.op.b.seq q.rs.a q.rs.n q.rs.c q.x.op.g q.x.op.m q.x.op.gen q.x.op.robin q.ts.a q.ts.n q.ts.c) :
    ldInt .i64 w a fun x0 => ldInt .i64 w (a.add 1) fun x1 => ldInt .i64 w (a.add 2) fun x2 => ldStr w (a.add 3) fun x3 => ldInt .i64 w (a.add 4) fun x4 => ldInt .i64 w (a.add 5) fun x5 => ldInt .i64 w (a.add 6) fun x6 => ldInt .i64 w (a.add 7) fun x7 => ldInt .i64 w (a.add 8) fun x8 => ldInt .i64 w (a.add 9) fun x9 => ldSlice w (a.add 10) fun a10 n10 c10 => ldStr w (a.add 11) fun x11 => ldStr w (a.add 12) fun x12 => ldInt .i64 w (a.add 13) fun x13 => ldBool w (a.add 14) fun x14 => ldSlice w (a.add 15) fun a15 n15 c15 => F x0 x1 x2 x3 x4 x5 x6 x7 x8 x9 a10 n10 c10 x11 x12 x13 x14 a15 n15 c15 :=
  ldInt_of (x := q.x.c) (by simpa [add_zero] using h 0 _ rfl) (ldInt_of (h 1 _ rfl) (ldInt_of (h 2 _ rfl) (ldStr_of (h 3 _ rfl) (ldInt_of (h 4 _ rfl) (ldInt_of (h 5 _ rfl) (ldInt_of (h 6 _ rfl) (ldInt_of (h 7 _ rfl) (ldInt_of (h 8 _ rfl) (ldInt_of (h 9 _ rfl) (ldSlice_of (h 10 _ rfl) (ldStr_of (h 11 _ rfl) (ldStr_of (h 12 _ rfl) (ldInt_of (h 13 _ rfl) (ldBool_of (h 14 _ rfl) (ldSlice_of (h 15 _ rfl) hF)))))))))))))))
theorem ckPtr_of {a : Addr} {F : Addr → Prop} (h : F a) : ckPtr (some a) F := h
theorem cv_cell {w : World} {b : Nat} {q : CV} {T : TypeId} (h : w.heap[b]? = some (.cells q.cs.toArray T)) : ∀ j v, q.cs[j]? = some v → w.cell? ((⟨b, 0, none⟩ : Addr).add j) = some v := fun j v hv => by
  rw [addr_add, Nat.zero_add, cell_at h]; simpa using hv
theorem SlAt.one {α : Type} {w : World} {b sz : Nat} {enc : α → List Value} {x : α} {T : TypeId} (h : w.heap[b]? = some (.cells (enc x).toArray T)) : SlAt w sz enc (some ⟨b, 0, none⟩) 1 [x] :=
  ⟨rfl, fun i y hy => ⟨_, rfl, fun j v hv => by
    have hi := (List.getElem?_eq_some_iff.1 hy).1
    have hi : i = 0 := by simp at hi; omega
    subst hi
    simp at hy; subst hy
    rw [addr_add, addr_add, cell_at h]; simpa using hv⟩⟩

theorem Row.one {α : Type} {w : World} {base T sz b : Nat} {enc : α → List Value} {x : α} (hs : (enc x).length = sz) (hb : base ≤ b) (h : w.heap[b]? = some (.cells (enc x).toArray T)) : Row w base T sz enc (some ⟨b, 0, none⟩) 1 1 [x] :=
  ⟨rfl, by simp [hs], .inr ⟨b, 1, (enc x).toArray, rfl, hb, h, by simp, by unfold maxLen; omega, by simp [hs], by subst hs; simp⟩⟩

/-! ### a quorum's numbers -/
def mayB (n : Int) : Bool := decide (1 ≤ n ∧ n ≤ 7)
theorem may_ok (n : Int) (w : World) : Calls Try.prog 41 #[.int .i64 n] w fun e w' => e = .returned (.bool (mayB n)) ∧ w' = w := by
  refine go_of (quorum_may_go ?_)
  refine brB_dec (fun h => ⟨?_, rfl⟩) fun h => ⟨?_, rfl⟩
  · congr 1; apply Bool.eq_iff_iff.2; simp [mayB]; omega
  · congr 1; symm; simp [mayB]; omega
def needN (n : Int) : Int := if mayB n then n / 2 + 1 else 0
theorem Need_ok (n : Int) (w : World) : Calls Try.prog 19 #[.int .i64 n] w fun e w' => e = .returned (.int .i64 (needN n)) ∧ w' = w := by
  refine go_of (quorum_Need_go ?_)
  refine (may_ok n w).mono ?_
  rintro e w1 ⟨rfl, rfl⟩
  refine ⟨_, rfl, brB_of (fun h => ⟨by rw [needN, if_neg (by rw [notT h]; decide)], rfl⟩) fun h => ⟨by decide, ?_, rfl⟩⟩
  have h := notF h
  have hb : 1 ≤ n ∧ n ≤ 7 := by simpa [mayB] using h
  rw [needN, if_pos h, Int.tdiv_eq_ediv_of_nonneg (by omega), wrap_id (x := n / 2) (by omega) (by omega), wrap_id (by omega) (by omega)]
theorem Primary_ok {v n : Int} (hv : 0 ≤ v) (hn : mayB n = true) (w : World) : Calls Try.prog 31 #[.int .i64 v, .int .i64 n] w fun e w' => e = .returned (.int .i64 (v % n)) ∧ w' = w := by
  have hb : 1 ≤ n ∧ n ≤ 7 := by simpa [mayB] using hn
  refine go_of (quorum_Primary_go ?_)
  refine (may_ok n w).mono ?_
  rintro e w1 ⟨rfl, rfl⟩
  refine ⟨_, rfl, brB_of (fun h => by rw [hn] at h; cases h) fun h => brB_dec (fun h => by omega) fun _ => ⟨by omega, ?_, rfl⟩⟩
  rw [Int.tmod_eq_emod_of_nonneg hv]

/-! ### the object -/
structure Ses (w : World) (b0 : Nat) (cl rp n v : Int) (o : Option PCall) : Prop where
  obj : ∃ p, w.heap[b0]? = some (.cells #[.int .i64 cl, .int .i64 rp, .int .i64 n, .int .i64 v, .pointer p] 67) ∧ (match o with
    | none => p = none
    | some c => ∃ (b9 : Nat) (rs ts : Sl), p = some ⟨b9, 0, none⟩ ∧ b0 < b9 ∧ w.heap[b9]? = some (.cells (CV.cs ⟨c, rs, ts⟩).toArray 48) ∧ OpOwn w (b0 + 1) c.op rs ts)
theorem Ses.keep0 {w w' : World} {b0 : Nat} {cl rp n v : Int} {o : Option PCall} (h : Ses w b0 cl rp n v o) (M : Mod [] w w') : Ses w' b0 cl rp n v o := by
  obtain ⟨p, h1, h2⟩ := h.obj
  refine ⟨p, M.keep0 h1, ?_⟩
  cases o with
  | none => exact h2
  | some c => obtain ⟨b9, rs, ts, h3, h4, h5, h6⟩ := h2; exact ⟨b9, rs, ts, h3, h4, M.keep0 h5, h6.keep0 M⟩
theorem Ses.keepN {S : List Nat} {w w' : World} {b0 : Nat} {cl rp n v : Int} {o : Option PCall} (h : Ses w b0 cl rp n v o) (M : Mod S w w') (hS : ∀ k ∈ S, w.heap.size ≤ k) : Ses w' b0 cl rp n v o := h.keep0 (M.new hS)
theorem Ses.lt {w : World} {b0 : Nat} {cl rp n v : Int} {o : Option PCall} (h : Ses w b0 cl rp n v o) : b0 < w.heap.size := by
  obtain ⟨p, h1, h2⟩ := h.obj; exact lt_of_block h1
theorem New_ok {cl rp : Int} (w : World) : Calls Try.prog 6 #[.int .i64 cl, .int .i64 rp] w fun e w' => ∃ v, e = .returned v ∧
    (if 1 ≤ cl ∧ cl ≤ 1099511627776 ∧ mayB rp = true then ∃ b0, v = .tuple #[.pointer (some ⟨b0, 0, none⟩), .int .i64 0] ∧ w.heap.size ≤ b0 ∧ Ses w' b0 cl rp 0 0 none else v = .tuple #[.pointer none, .int .i64 1]) ∧ Mod [] w w' := by
  refine session_New_go ?_
  refine brB_dec (fun h => ⟨by rw [if_neg (by omega)], Mod.refl _⟩) fun h1 => ?_
  refine brB_dec (fun h => ⟨by rw [if_neg (by omega)], Mod.refl _⟩) fun h2 => ?_
  refine (Need_ok rp w).mono ?_
  rintro e w1 ⟨rfl, rfl⟩
  refine ⟨_, rfl, brB_of (fun h => ⟨?_, Mod.refl _⟩) fun h => ?_⟩
  · have h : needN rp = 0 := by simpa using h
    rw [if_neg]
    rintro ⟨_, _, h3⟩
    rw [needN, if_pos h3] at h
    have hb : 1 ≤ rp ∧ rp ≤ 7 := by simpa [mayB] using h3
    omega
  · have h : needN rp ≠ 0 := by simpa using h
    have h3 : mayB rp = true := by
      cases hm : mayB rp with
      | true => rfl
      | false => rw [needN, if_neg (by rw [hm]; decide)] at h; exact absurd rfl h
    intro b3 f3 w4 A4 h4
    refine ⟨?_, A4.mod⟩
    rw [if_pos ⟨by omega, by omega, h3⟩]
    exact ⟨b3, rfl, f3, ⟨none, h4, rfl⟩⟩

theorem SOwn_ok {w : World} {q : CV} (h : OpAt w q.x.op q.rs q.ts) :
    Calls Try.prog 29 #[q.v] w fun e w' => ∃ v, e = .returned v ∧ ∃ rs ts : Sl, v = (⟨q.x, rs, ts⟩ : CV).v ∧ OpOwn w' w.heap.size q.x.op rs ts ∧ Mod [] w w' := by
  refine session_own_go ?_
  intro b1 f1 b2 f2 w3 A3
  have l2 := A3.lt b2 (by simp)
  have s3 := A3.mod.size
  refine al_of fun b4 w5 c5 M5 f5 => ?_
  have s5 := M5.size
  have N5 := A3.mod.go0 M5 (by simp)
  have hM : MailAt w5 ⟨0, 0, 0, 0, 0, 0, 0, 0, 0, 0, [q.x], rep00⟩ ⟨some ⟨b4, 0, none⟩, 1, 1⟩ nilS nilS :=
    ⟨⟨[q], SlAt.one (enc := CV.cs) (x := q) (T := 48) c5, fun y hy => by simp at hy; subst hy; exact h.keep0 N5, rfl⟩, ⟨(Row.nil w5 0 111 5 encF).sl encF_len, (Row.nil w5 0 29 2 encP).sl encP_len, by simp [rep00], by simp [rep00]⟩⟩
  refine (Own_ok hM (by simp)).mono ?_
  rintro e w6 ⟨_, rfl, s', f', p', rfl, hO, M6⟩
  have s6 := M6.size
  obtain ⟨ll, hS, hOw, hll⟩ := hO.calls
  obtain ⟨q', rfl⟩ : ∃ q', ll = [q'] := by
    have := congrArg List.length hll
    simp at this
    exact List.length_eq_one_iff.1 this
  have hq : q'.x = q.x := by simpa using hll
  refine ⟨_, _, _, _, _, _, _, _, _, _, _, _, _, _, _, _, _, _, _, _, _, _, _, rfl, Keep.of0 M6, ?_⟩
  refine (hS.sl CV.cs_len).ix (i := 0) (x := q') rfl fun a ha => ldCV_of ha ?_
  intro w7 A7
  refine ⟨q'.rs, q'.ts, by rw [← hq]; rfl, ?_, (N5.go0 M6 (by simp)).go0 A7.mod (by simpa using f2)⟩
  have := hOw q' (by simp)
  rw [hq] at this
  exact OpOwn.rebase (OpOwn.keepB this A7.mod (by simp; omega)) (by omega)

/-- What it sends. -/
def askM (cl to : Int) (c : PCall) : PMail := ⟨0, cl, to, 0, 0, 0, 0, 0, 0, 0, [c], rep00⟩
theorem mail_ok {w : World} {b0 : Nat} {cl rp n v : Int} {c : PCall} (h : Ses w b0 cl rp n v (some c)) (to : Int) :
    Calls Try.prog 30 #[.pointer (some ⟨b0, 0, none⟩), .int .i64 to] w fun e w' => ∃ v, e = .returned v ∧ ∃ s' : Sl, v = (askM cl to c).v s' nilS nilS ∧ MailOwn w' w.heap.size (askM cl to c) s' nilS nilS ∧ Mod [] w w' := by
  obtain ⟨p, h1, b9, rs, ts, rfl, h4, h5, h6⟩ := h.obj
  refine session_Session_mail_go h1 ?_
  intro b1 f1
  refine ckPtr_of ?_
  intro w3 A3
  have l1 := A3.lt b1 (by simp)
  have s3 := A3.mod.size
  refine ldCV_of (q := ⟨c, rs, ts⟩) (cv_cell (A3.mod.keep0 h5)) ?_
  refine (SOwn_ok (q := ⟨c, rs, ts⟩) (h6.at.keep0 A3.mod)).mono ?_
  rintro e w4 ⟨_, rfl, rs', ts', rfl, hO, M4⟩
  have s4 := M4.size
  refine ⟨_, _, _, _, _, _, _, _, _, _, _, _, _, _, _, _, _, _, _, _, rfl, Keep.of0 M4, rfl, ?_⟩
  refine al_of fun b5 w5 c5 M5 f5 => ?_
  have s5 := M5.size
  intro w6 A6 h6'
  have hrow : Row w5 w3.heap.size 48 16 CV.cs (some ⟨b5, 0, none⟩) 1 1 [(⟨c, rs', ts'⟩ : CV)] := Row.one rfl (by omega) c5
  have hC : CallsOwn w5 w3.heap.size ⟨some ⟨b5, 0, none⟩, 1, 1⟩ [c] := ⟨[⟨c, rs', ts'⟩], hrow, fun y hy => by simp at hy; subst hy; exact hO.keep0 M5, rfl⟩
  have hR : RepOwn w5 w3.heap.size rep00 nilS nilS := ⟨Row.nil .., Row.nil .., by simp [rep00], by simp [rep00]⟩
  have hM : MailOwn w5 w3.heap.size (askM cl to c) ⟨some ⟨b5, 0, none⟩, 1, 1⟩ nilS nilS := ⟨hC, hR⟩
  exact ⟨⟨some ⟨b5, 0, none⟩, 1, 1⟩, rfl, (hM.keepB A6.mod (by simp; omega)).rebase s3, ((A3.mod.go0 M4 (by simp)).go0 M5 (by simp)).go0 A6.mod (by simpa using f1)⟩

/-! ### a call -/
def callE (op : POp) (n : Int) (o : Option PCall) : Int := if opE op ≠ 0 then opE op else if o.isSome then 220 else if n ≥ 1099511627776 then 2 else 0
set_option maxHeartbeats 1000000 in
theorem Call_ok {w : World} {b0 : Nat} {cl rp n v : Int} {o : Option PCall} (h : Ses w b0 cl rp n v o) {op : POp} {rs ts : Sl} (hop : ∀ w', Mod [b0] w w' → OpAt w' op rs ts) (hv : 0 ≤ v) (hrp : mayB rp = true) (hn : 0 ≤ n) :
    Calls Try.prog 9 #[.pointer (some ⟨b0, 0, none⟩), op.v rs ts] w fun e w' => ∃ u, e = .returned u ∧ Mod [b0] w w' ∧
      (if callE op n o = 0 then ∃ s' : Sl, u = .tuple #[(askM cl (v % rp) ⟨cl, n + 1, op⟩).v s' nilS nilS, .int .i64 0] ∧ MailOwn w' w.heap.size (askM cl (v % rp) ⟨cl, n + 1, op⟩) s' nilS nilS ∧ Ses w' b0 cl rp (n + 1) v (some ⟨cl, n + 1, op⟩)
      else u = .tuple #[mail0.v nilS nilS nilS, .int .i64 (callE op n o)] ∧ Ses w' b0 cl rp n v o) := by
  have hlt := h.lt
  obtain ⟨p, h1, h2⟩ := h.obj
  have hpo : (!(Option.isNone p)) = o.isSome := by
    cases o with
    | none => rw [h2]; rfl
    | some c => obtain ⟨b9, _, _, rfl, _⟩ := h2; rfl
  refine session_Session_Call_go h1 ?_
  intro b1 f1 b2 f2 w3 A3
  have l2 := A3.lt b2 (by simp)
  have s3 := A3.mod.size
  have M1 : ∀ {w'}, Mod [] w w' → Mod [b0] w w' := fun M => M.less (by simp)
  refine (Check_ok (hop w3 (M1 A3.mod))).mono ?_
  rintro e w4 ⟨rfl, M4⟩
  have N4 := A3.mod.go0 M4 (by simp)
  have s4 := M4.size
  refine ⟨_, rfl, Keep.of0 M4, ?_⟩
  have fin : ∀ {w'}, Adv [b2] [] w4 w' → callE op n o ≠ 0 → (if callE op n o = 0 then ∃ s' : Sl, Value.tuple #[mail0.v nilS nilS nilS, .int .i64 (callE op n o)] = .tuple #[(askM cl (v % rp) ⟨cl, n + 1, op⟩).v s' nilS nilS, .int .i64 0] ∧ MailOwn w' w.heap.size (askM cl (v % rp) ⟨cl, n + 1, op⟩) s' nilS nilS ∧ Ses w' b0 cl rp (n + 1) v (some ⟨cl, n + 1, op⟩)
      else Value.tuple #[mail0.v nilS nilS nilS, .int .i64 (callE op n o)] = .tuple #[mail0.v nilS nilS nilS, .int .i64 (callE op n o)] ∧ Ses w' b0 cl rp n v o) := fun {w'} A hne => by
    rw [if_neg hne]
    exact ⟨rfl, h.keep0 (N4.go0 A.mod (by simpa using f2))⟩
  refine brB_of (fun g => ?_) fun g => ?_
  · have g : opE op ≠ 0 := by simpa using g
    have e : callE op n o = opE op := by rw [callE, if_pos g]
    intro w6 A6 _
    rw [← e]
    exact ⟨M1 (N4.go0 A6.mod (by simpa using f2)), fin A6 (by rw [e]; exact g)⟩
  have g : opE op = 0 := by simpa using g
  refine brB_of (fun g2 => ?_) fun g2 => ?_
  · rw [hpo] at g2
    have e : callE op n o = 220 := by rw [callE, if_neg (by simpa using g), if_pos g2]
    intro w6 A6 _
    rw [← e]
    exact ⟨M1 (N4.go0 A6.mod (by simpa using f2)), fin A6 (by rw [e]; decide)⟩
  rw [hpo] at g2
  have ho : o = none := by simpa using g2
  subst ho
  refine brB_dec (fun g3 => ?_) fun g3 => ?_
  · have e : callE op n none = 2 := by rw [callE, if_neg (by simpa using g), if_neg (by decide), if_pos g3]
    intro w6 A6 _
    rw [← e]
    exact ⟨M1 (N4.go0 A6.mod (by simpa using f2)), fin A6 (by rw [e]; decide)⟩
  have hce : callE op n none = 0 := by rw [callE, if_neg (by simpa using g), if_neg (by decide), if_neg g3]
  have hw1 : IntKind.wrap .i64 (n + 1) = n + 1 := wrap_id (by omega) (by omega)
  have h2 : p = none := h2
  refine ⟨?_, ?_⟩
  · intro b9 f9 w5 A5
    have l9 := A5.lt b9 (by simp)
    have s5 := A5.mod.size
    have N5 : Mod [b0] w w5 := (N4.trans A5.mod).less (by simp)
    rw [hw1]
    refine (SOwn_ok (q := ⟨⟨cl, n + 1, op⟩, rs, ts⟩) (hop w5 N5)).mono ?_
    rintro e w6 ⟨_, rfl, rs', ts', rfl, hO, M6⟩
    have s6 := M6.size
    refine ⟨_, _, _, _, _, _, _, _, _, _, _, _, _, _, _, _, _, _, _, _, rfl, Keep.of0 M6, ?_⟩
    intro w7 A7 h7
    have s7 := A7.mod.size
    have hO7 : OpOwn w7 w5.heap.size op rs' ts' := hO.keepB A7.mod (by simp; omega)
    have hfin : Mod [b0] w w7 := ((N5.trans M6).trans A7.mod).less fun i hi hlt => by simp at hi ⊢; omega
    refine (Primary_ok hv hrp w7).mono ?_
    rintro e w8 ⟨rfl, rfl⟩
    refine ⟨_, rfl, Keep.of0 (Mod.refl _), _, _, _, _, _, _, _, _, _, _, _, _, _, _, _, _, _, _, _, _, h7, ?_⟩
    intro w9 A9 h9 h9'
    have s9 := A9.mod.size
    have hS9 : Ses w9 b0 cl rp (n + 1) v (some ⟨cl, n + 1, op⟩) :=
      ⟨_, h9, b9, rs', ts', rfl, by omega, h9', (hO7.keep0 A9.mod).rebase (by omega)⟩
    refine (mail_ok hS9 (v % rp)).mono ?_
    rintro e w10 ⟨_, rfl, s', rfl, hM, M10⟩
    have s10 := M10.size
    have hS10 := hS9.keep0 M10
    refine ⟨_, _, _, _, _, _, _, _, _, _, _, _, _, _, _, _, _, _, _, _, _, _, _, rfl, Keep.of0 M10, _, _, _, _, _, M10.keep0 h9, _, _, _, _, _, _, _, _, _, _, _, _, _, _, _, _, _, _, _, _, M10.keep0 h9', ?_⟩
    intro w11 A11 h11 h11'
    have s11 := A11.mod.size
    refine ⟨?_, ?_⟩
    · refine ((hfin.trans (A9.mod.trans M10)).trans A11.mod).less fun i hi hlt => ?_
      simp at hi ⊢
      rcases hi with hi | hi
      · exact hi
      · omega
    · rw [if_pos hce]
      exact ⟨s', rfl, (hM.keepB A11.mod (by simp; omega)).rebase (by omega), ⟨_, h11, b9, rs', ts', rfl, by omega, h11', OpOwn.rebase (OpOwn.keepB ((hO7.keep0 A9.mod).keep0 M10) A11.mod (by simp; omega)) (by omega)⟩⟩
  · intro w5 A5
    have s5 := A5.mod.size
    have N5 : Mod [b0] w w5 := (N4.trans A5.mod).less (by simp)
    rw [hw1]
    refine (SOwn_ok (q := ⟨⟨cl, n + 1, op⟩, rs, ts⟩) (hop w5 N5)).mono ?_
    rintro e w6 ⟨_, rfl, rs', ts', rfl, hO, M6⟩
    have s6 := M6.size
    refine ⟨_, _, _, _, _, _, _, _, _, _, _, _, _, _, _, _, _, _, _, _, rfl, Keep.of0 M6, ?_⟩
    intro b9 f9 w7 A7 h7
    have s7 := A7.mod.size
    have hO7 : OpOwn w7 w5.heap.size op rs' ts' := hO.keepB A7.mod (by simp; omega)
    have hfin : Mod [b0] w w7 := ((N5.trans M6).trans A7.mod).less fun i hi hlt => by simp at hi ⊢; omega
    refine (Primary_ok hv hrp w7).mono ?_
    rintro e w8 ⟨rfl, rfl⟩
    refine ⟨_, rfl, Keep.of0 (Mod.refl _), _, _, _, _, _, _, _, _, _, _, _, _, _, _, _, _, _, _, _, _, h7, ?_⟩
    intro w9 A9 h9 h9'
    have s9 := A9.mod.size
    have hS9 : Ses w9 b0 cl rp (n + 1) v (some ⟨cl, n + 1, op⟩) :=
      ⟨_, h9, b9, rs', ts', rfl, by omega, h9', (hO7.keep0 A9.mod).rebase (by omega)⟩
    refine (mail_ok hS9 (v % rp)).mono ?_
    rintro e w10 ⟨_, rfl, s', rfl, hM, M10⟩
    have s10 := M10.size
    have hS10 := hS9.keep0 M10
    refine ⟨_, _, _, _, _, _, _, _, _, _, _, _, _, _, _, _, _, _, _, _, _, _, _, rfl, Keep.of0 M10, _, _, _, _, _, M10.keep0 h9, _, _, _, _, _, _, _, _, _, _, _, _, _, _, _, _, _, _, _, _, M10.keep0 h9', ?_⟩
    intro w11 A11 h11 h11'
    have s11 := A11.mod.size
    refine ⟨?_, ?_⟩
    · refine ((hfin.trans (A9.mod.trans M10)).trans A11.mod).less fun i hi hlt => ?_
      simp at hi ⊢
      rcases hi with hi | hi
      · exact hi
      · omega
    · rw [if_pos hce]
      exact ⟨s', rfl, (hM.keepB A11.mod (by simp; omega)).rebase (by omega), ⟨_, h11, b9, rs', ts', rfl, by omega, h11', OpOwn.rebase (OpOwn.keepB ((hO7.keep0 A9.mod).keep0 M10) A11.mod (by simp; omega)) (by omega)⟩⟩
end Go.Proofs.Ytohgihgddknmmaa
