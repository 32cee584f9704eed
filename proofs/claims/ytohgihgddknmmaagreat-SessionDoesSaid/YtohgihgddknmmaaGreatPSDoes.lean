/- SessionDoes, for every input. No conditions. -/
import Derived.WalkKit
import Derived.WalkSpells
import Derived.WalkLawsBesides
import Derived.Deep.Quiet
import Derived.Test.YtohgihgddknmmaaGreatRows
import Derived.KernelRfl
import Derived.Maps.Keyed
import Derived.Maps.RangeRun
import Derived.DeepKeys4
import Derived.Lib.Strings
import Derived.Shelf.RegionOpenPlain
import Derived.Lib.Slices
import Derived.Lib.Walk
import Derived.Lib.Builder
import Derived.Lib.FrozenHead
import Derived.Lib.OthersKept
import Derived.Lib.AppendStr
import Derived.Lib.UnsafeStr
import Derived.Lib.MakeNoZero
import Derived.Laws.Externs
import Derived.Laws.IdiomCopy
import Derived.Laws.BitsLemmas
import Derived.RangeFuncBox
import Derived.RangeFuncLeaves
import Derived.RangeFuncNested
import Derived.Shelf.Abstract
import Derived.OwnWalkIn
import Derived.TacticsInMore
import Derived.LoopNIn
import Derived.LoopIn
import Derived.Maps.AppendAt
import Derived.Sort.LoopGhostIn
import Derived.Laws.Bits64b
import Derived.Laws.IdiomStrings
import Derived.Test.YtohgihgddknmmaaGreatProg
import Derived.Shelf.Lay
import Derived.Shelf.Strings.FuncGrows
import Derived.Laws.RangeAny
import Derived.Ground.GgwProg
import Derived.Ground.NamesProg
import Derived.ArgAppend
import Derived.Deep.RegionWith
import Derived.ProofKit
import Derived.OpenShut
import Derived.ShutString
import Derived.ChangeOld
import Derived.Below
import Derived.Deep.Slices
import Derived.Test.YtohgihgddknmmaaGreatPSDoesK6
/- SessionDoes, walked. -/
namespace Go.Proofs.YtohgihgddknmmaaGreat
open Go Go.RowKit
set_option linter.unusedVariables false
set_option linter.unusedSimpArgs false

/-! ### messages cut short -/
def cutM (m : PMail) : PMail := ⟨m.kind, m.fr, m.to, m.view, m.normal, m.last, m.commit, m.nonce, m.base, m.n, cutCs m.calls, cutRep m.r⟩
theorem MailRd.keep0 {w w' : World} {m : PMail} {s f p : Sl} (h : MailRd w m s f p) (M : Mod [] w w') : MailRd w' m s f p := by
  obtain ⟨⟨ll, h1, h2, h3⟩, h4, h5⟩ := h
  exact ⟨⟨ll, h1.keep0 M, fun q hq => (h2 q hq).keep0 M, h3⟩, h4, h5.keep0 M⟩
theorem MCut_ok {w : World} {m : PMail} {s f p : Sl} (h : MailRd w m s f p) :
    Calls Tryz.prog 14 #[m.v s f p] w fun e w' => ∃ v, e = .returned v ∧ ∃ s' f' p' : Sl, v = (cutM m).v s' f' p' ∧ MailOwn w' w.heap.size (cutM m) s' f' p' ∧ Mod [] w w' := by
  refine law18_Cut_go ?_
  intro b1 f1 b2 f2 b3 f3 w4 A4
  have l1 := A4.lt b1 (by simp)
  have l2 := A4.lt b2 (by simp)
  have l3 := A4.lt b3 (by simp)
  have s4 := A4.mod.size
  obtain ⟨ll, h1, h2, h3⟩ := (h.keep0 A4.mod).calls
  refine (LCutX_ok h1 h2 h.ws).mono ?_
  rintro _ w5 ⟨_, rfl, s', rfl, hC, M5⟩
  rw [h3] at hC
  have s5 := M5.size
  refine ⟨_, _, _, rfl, Keep.of0 M5, ?_⟩
  intro w9 A9
  have s9 := A9.mod.size
  have N9 : Mod [] w w9 := (A4.mod.go0 M5 (by simp)).go0 A9.mod (by simpa using f3)
  refine (CutReplyX_ok (h.keep0 N9).rep).mono ?_
  rintro _ w10 ⟨_, rfl, f', p', rfl, hR, M10⟩
  have s10 := M10.size
  refine ⟨_, _, _, _, _, _, _, _, _, _, rfl, Keep.of0 M10, ?_⟩
  intro w21 A21
  refine ⟨s', f', p', rfl, ⟨((hC.keepB A9.mod (by simp; omega)).keep0 M10).keepB A21.mod (by simp; omega) |>.rebase s4, (hR.keepB A21.mod (by simp; omega)).rebase (by omega)⟩, (N9.go0 M10 (by simp)).go0 A21.mod (by simp; omega)⟩

/-! ### calls that may be spoilt -/
def CallsRaw (w : World) (B : Nat) (a : Option Addr) (n : Nat) : Prop := n = 0 ∨ ∃ g cap cur, a = some ⟨g, 0, none⟩ ∧ B ≤ g ∧ w.heap[g]? = some (.cells cur 57) ∧ n ≤ cap ∧ cur.size = cap * 16
theorem CallsOwn.raw {w : World} {B : Nat} {s : Sl} {xs : List PCall} (h : CallsOwn w B s xs) : CallsRaw w B s.a s.n := by
  obtain ⟨ll, ⟨hn, hl, ho⟩, _, _⟩ := h
  rcases ho with ⟨ho, h0⟩ | ⟨g, cap, cur, hv, hb, hg, hnc, hcm, hsz, _⟩
  · exact .inl h0
  · simp only [Value.slice.injEq] at hv
    exact .inr ⟨g, cap, cur, hv.1, hb, hg, hnc, hsz⟩
theorem CallsRaw.write {w : World} {B j : Nat} {a : Option Addr} {n : Nat} {F : World → Prop} (h : CallsRaw w B a n) (hj : j < n)
    (hF : ∀ g w', B ≤ g → (∃ cur, w.heap[g]? = some (.cells cur 57)) → Mod [g] w w' → (∀ a' n', CallsRaw w B a' n' → CallsRaw w' B a' n') → F w') : ixA a n (j : Int) 16 fun q => st w (Addr.add q 1) [.int .i64 99] F := by
  rcases h with h | ⟨g, cap, cur, rfl, h2, h3, h4, h5⟩
  · omega
  · refine ⟨_, rfl, by omega, by omega, ?_⟩
    have ea : (Addr.add (Addr.add ⟨g, 0, none⟩ ((j : Int).toNat * 16)) 1) = ⟨g, j * 16 + 1, none⟩ := by
      rw [add_add, Int.toNat_natCast]; unfold Addr.add; split <;> simp_all
    show st _ (Addr.add (Addr.add _ _) 1) _ _
    rw [ea]
    refine st_of h3 rfl (by simp; omega) fun w' hc M => hF g w' h2 ⟨cur, h3⟩ M fun a' n' hp => ?_
    rcases hp with hp | ⟨g', cap', cur', rfl, k2, k3, k4, k5⟩
    · exact .inl hp
    · by_cases e : g' = g
      · subst e
        rw [h3] at k3; cases k3
        exact .inr ⟨g', cap', _, rfl, k2, hc, k4, by rw [size_setFrom]; exact k5⟩
      · exact .inr ⟨g', cap', cur', rfl, k2, M.keep k3 (by simpa using e), k4, k5⟩
structure MailsRaw (w : World) (B : Nat) (s : Sl) (ll : List MV) : Prop where
  row : Row w B 45 17 MV.cs s.a s.n s.c ll
  raw : ∀ y ∈ ll, CallsRaw w B y.s.a y.s.n

/-! ### a script's calls -/
structure KV where
  kind : Int
  o : OV
  m : MR
def KV.cs (q : KV) : List Value := [.int .i64 q.kind, .int .i64 q.o.o.kind, .string q.o.o.part.t, .int .i64 q.o.o.part.n, .int .i64 q.o.o.n, .int .i64 q.o.o.off, .int .i64 q.o.o.b.prod, .int .i64 q.o.o.b.epoch, .int .i64 q.o.o.b.seq, .slice q.o.rs.a q.o.rs.n q.o.rs.c, .string q.o.o.g, .string q.o.o.m, .int .i64 q.o.o.gen, .bool q.o.o.robin, .slice q.o.ts.a q.o.ts.n q.o.ts.c, .int .i64 q.m.m.kind, .int .i64 q.m.m.fr, .int .i64 q.m.m.to, .int .i64 q.m.m.view, .int .i64 q.m.m.normal, .int .i64 q.m.m.last, .int .i64 q.m.m.commit, .int .i64 q.m.m.nonce, .int .i64 q.m.m.base, .int .i64 q.m.m.n, .slice q.m.s.a q.m.s.n q.m.s.c, .int .i64 q.m.m.r.e, .int .i64 q.m.m.r.off, .int .i64 q.m.m.r.n, .int .i64 q.m.m.r.gen, .slice q.m.f.a q.m.f.n q.m.f.c, .slice q.m.p.a q.m.p.n q.m.p.c]
structure KVRd (w : World) (q : KV) : Prop where
  o : OpRd w q.o.o q.o.rs q.o.ts
  m : MailRd w q.m.m q.m.s q.m.f q.m.p
theorem ldKV_of {w : World} {a : Addr} {q : KV} {F : Int → Int → ByteArray → Int → Int → Int → Int → Int → Int → Option Addr → Nat → Nat → ByteArray → ByteArray → Int → Bool → Option Addr → Nat → Nat → Int → Int → Int → Int → Int → Int → Int → Int → Int → Int → Option Addr → Nat → Nat → Int → Int → Int → Int → Option Addr → Nat → Nat → Option Addr → Nat → Nat → Prop} (h : ∀ j v, q.cs[j]? = some v → w.cell? (a.add j) = some v) (hF : F q.kind q.o.o.kind q.o.o.part.t q.o.o.part.n q.o.o.n q.o.o.off q.o.o.b.prod q.o.o.b.epoch q.o.o.b.seq q.o.rs.a q.o.rs.n q.o.rs.c q.o.o.g q.o.o.m q.o.o.gen q.o.o.robin q.o.ts.a q.o.ts.n q.o.ts.c q.m.m.kind q.m.m.fr q.m.m.to q.m.m.view q.m.m.normal q.m.m.last q.m.m.commit q.m.m.nonce q.m.m.base q.m.m.n q.m.s.a q.m.s.n q.m.s.c q.m.m.r.e q.m.m.r.off q.m.m.r.n q.m.m.r.gen q.m.f.a q.m.f.n q.m.f.c q.m.p.a q.m.p.n q.m.p.c) :
    ldInt .i64 w a fun x0 => ldInt .i64 w (a.add 1) fun x1 => ldStr w (a.add 2) fun x2 => ldInt .i64 w (a.add 3) fun x3 => ldInt .i64 w (a.add 4) fun x4 => ldInt .i64 w (a.add 5) fun x5 => ldInt .i64 w (a.add 6) fun x6 => ldInt .i64 w (a.add 7) fun x7 => ldInt .i64 w (a.add 8) fun x8 => ldSlice w (a.add 9) fun a9 n9 c9 => ldStr w (a.add 10) fun x10 => ldStr w (a.add 11) fun x11 => ldInt .i64 w (a.add 12) fun x12 => ldBool w (a.add 13) fun x13 => ldSlice w (a.add 14) fun a14 n14 c14 => ldInt .i64 w (a.add 15) fun x15 => ldInt .i64 w (a.add 16) fun x16 => ldInt .i64 w (a.add 17) fun x17 => ldInt .i64 w (a.add 18) fun x18 => ldInt .i64 w (a.add 19) fun x19 => ldInt .i64 w (a.add 20) fun x20 => ldInt .i64 w (a.add 21) fun x21 => ldInt .i64 w (a.add 22) fun x22 => ldInt .i64 w (a.add 23) fun x23 => ldInt .i64 w (a.add 24) fun x24 => ldSlice w (a.add 25) fun a25 n25 c25 => ldInt .i64 w (a.add 26) fun x26 => ldInt .i64 w (a.add 27) fun x27 => ldInt .i64 w (a.add 28) fun x28 => ldInt .i64 w (a.add 29) fun x29 => ldSlice w (a.add 30) fun a30 n30 c30 => ldSlice w (a.add 31) fun a31 n31 c31 => F x0 x1 x2 x3 x4 x5 x6 x7 x8 a9 n9 c9 x10 x11 x12 x13 a14 n14 c14 x15 x16 x17 x18 x19 x20 x21 x22 x23 x24 a25 n25 c25 x26 x27 x28 x29 a30 n30 c30 a31 n31 c31 :=
  ldInt_of (x := q.kind) (by simpa [add_zero] using h 0 _ rfl) (ldInt_of (h 1 _ rfl) (ldStr_of (h 2 _ rfl) (ldInt_of (h 3 _ rfl) (ldInt_of (h 4 _ rfl) (ldInt_of (h 5 _ rfl) (ldInt_of (h 6 _ rfl) (ldInt_of (h 7 _ rfl) (ldInt_of (h 8 _ rfl) (ldSlice_of (h 9 _ rfl) (ldStr_of (h 10 _ rfl) (ldStr_of (h 11 _ rfl) (ldInt_of (h 12 _ rfl) (ldBool_of (h 13 _ rfl) (ldSlice_of (h 14 _ rfl) (ldInt_of (h 15 _ rfl) (ldInt_of (h 16 _ rfl) (ldInt_of (h 17 _ rfl) (ldInt_of (h 18 _ rfl) (ldInt_of (h 19 _ rfl) (ldInt_of (h 20 _ rfl) (ldInt_of (h 21 _ rfl) (ldInt_of (h 22 _ rfl) (ldInt_of (h 23 _ rfl) (ldInt_of (h 24 _ rfl) (ldSlice_of (h 25 _ rfl) (ldInt_of (h 26 _ rfl) (ldInt_of (h 27 _ rfl) (ldInt_of (h 28 _ rfl) (ldInt_of (h 29 _ rfl) (ldSlice_of (h 30 _ rfl) (ldSlice_of (h 31 _ rfl) (hF))))))))))))))))))))))))))))))))

/-! ### the two clients -/
structure Duo (w0 w : World) (b0 b1 : Nat) (cl rp n v : Int) (o : Option PCall) : Prop where
  s : Ses w b0 cl rp n v o
  k : RSes w b1 cl rp n v o
  mod : Mod [] w0 w
  le0 : w0.heap.size ≤ b0
  le1 : w0.heap.size ≤ b1
  hn : 0 ≤ n ∧ n ≤ 1099511627776
  hv : 0 ≤ v
  hc : ∀ c, o = some c → c.n = n
theorem Duo.keep0 {w0 w w' : World} {b0 b1 : Nat} {cl rp n v : Int} {o : Option PCall} (h : Duo w0 w b0 b1 cl rp n v o) (M : Mod [] w w') : Duo w0 w' b0 b1 cl rp n v o :=
  ⟨h.s.keep0 M, h.k.keep0 M, h.mod.go0 M (by simp), h.le0, h.le1, h.hn, h.hv, h.hc⟩
theorem callE_lt {op : POp} {n : Int} {o : Option PCall} (h : callE op n o = 0) : n < 1099511627776 := by
  unfold callE at h
  split at h
  · rename_i g; exact absurd h g
  · split at h
    · omega
    · split at h
      · omega
      · omega
theorem MailOwn.apartK {w w' : World} {B b1 : Nat} {cl rp n v : Int} {o : Option PCall} {m : PMail} {s f p : Sl} (h : MailOwn w B m s f p) (k : RSes w b1 cl rp n v o) (M : Mod [b1] w w') : MailOwn w' B m s f p := by
  obtain ⟨q, h1, _⟩ := k.obj
  exact h.keepT M fun i hi cs T hT => by simp at hi; subst hi; rw [h1] at hT; cases hT; decide
theorem MailOwn.apartS {w w' : World} {B b0 : Nat} {cl rp n v : Int} {o : Option PCall} {m : PMail} {s f p : Sl} (h : MailOwn w B m s f p) (k : Ses w b0 cl rp n v o) (M : Mod [b0] w w') : MailOwn w' B m s f p := by
  obtain ⟨q, h1, _⟩ := k.obj
  exact h.keepT M fun i hi cs T hT => by simp at hi; subst hi; rw [h1] at hT; cases hT; decide
theorem OpOwn.apartS {w w' : World} {B b0 : Nat} {cl rp n v : Int} {o : Option PCall} {x : POp} {rs ts : Sl} (h : OpOwn w B x rs ts) (k : Ses w b0 cl rp n v o) (M : Mod [b0] w w') : OpOwn w' B x rs ts := by
  obtain ⟨q, h1, _⟩ := k.obj
  exact h.keep M fun i hi cs T hT => by simp at hi; subst hi; rw [h1] at hT; cases hT; decide
theorem RepOwn.apartK {w w' : World} {B b1 : Nat} {cl rp n v : Int} {o : Option PCall} {r : PRep} {f p : Sl} (h : RepOwn w B r f p) (k : RSes w b1 cl rp n v o) (M : Mod [b1] w w') : RepOwn w' B r f p := by
  obtain ⟨q, h1, _⟩ := k.obj
  exact h.keepT M fun i hi cs T hT => by simp at hi; subst hi; rw [h1] at hT; cases hT; decide
theorem retry_len {cl rp : Int} (hrp : mayB rp = true) (o : Option PCall) : (retryL cl rp o).length ≤ 1000000 ∧ ∀ m ∈ retryL cl rp o, m.calls.length ≤ 1000000 := by
  have hb : 1 ≤ rp ∧ rp ≤ 7 := by simpa [mayB] using hrp
  cases o with
  | none => exact ⟨by simp [retryL], by simp [retryL]⟩
  | some c =>
    refine ⟨by simp [retryL, asksL]; omega, fun m hm => ?_⟩
    simp [retryL, asksL] at hm
    obtain ⟨i, _, rfl⟩ := hm
    simp [askM]

set_option maxHeartbeats 4000000 in
set_option maxRecDepth 20000 in
theorem SDoes_tail {b0 b1 : Nat} {cl rp n v : Int} {o : Option PCall} {x_0 : Int} {a_2 : Option Addr} {n_2 c_2 : Nat} {x_11 : Int} {bm0 : Nat} {x_m0_0 x_m0_1 : Int} {s_m0_2 : ByteArray} {x_m0_3 x_m0_4 x_m0_5 x_m0_6 x_m0_7 x_m0_8 : Int} {a_m0_9 : Option Addr} {n_m0_9 c_m0_9 : Nat} {s_m0_10 s_m0_11 : ByteArray} {x_m0_12 : Int} {t_m0_13 : Bool} {a_m0_14 : Option Addr} {n_m0_14 c_m0_14 : Nat} {x_m0_15 x_m0_16 x_m0_17 x_m0_18 x_m0_19 x_m0_20 x_m0_21 x_m0_22 x_m0_23 x_m0_24 : Int} {a_m0_25 : Option Addr} {n_m0_25 c_m0_25 : Nat} {x_m0_26 x_m0_27 x_m0_28 x_m0_29 : Int} {a_m0_30 : Option Addr} {n_m0_30 c_m0_30 : Nat} {a_m0_31 : Option Addr} {n_m0_31 c_m0_31 bm1 : Nat} {x_m1_0 : Int} {s_m1_1 : ByteArray} {x_m1_2 x_m1_3 x_m1_4 x_m1_5 x_m1_6 x_m1_7 : Int} {a_m1_8 : Option Addr} {n_m1_8 c_m1_8 : Nat} {s_m1_9 s_m1_10 : ByteArray} {x_m1_11 : Int} {t_m1_12 : Bool} {a_m1_13 : Option Addr} {n_m1_13 c_m1_13 bm2 : Nat} {x_m2_0 x_m2_1 x_m2_2 x_m2_3 x_m2_4 x_m2_5 x_m2_6 x_m2_7 x_m2_8 x_m2_9 : Int} {a_m2_10 : Option Addr} {n_m2_10 c_m2_10 : Nat} {x_m2_11 x_m2_12 x_m2_13 x_m2_14 : Int} {a_m2_15 : Option Addr} {n_m2_15 c_m2_15 : Nat} {a_m2_16 : Option Addr} {n_m2_16 c_m2_16 : Nat} {K1 : Kh} {R : Value → World → Prop} {w : World}
    (S : Ses w b0 cl rp n v o) (K : RSes w b1 cl rp n v o)
    (k : ∀ w', Mod [] w w' → K1 (law22_SessionDoes_v1 x_0 a_2 n_2 c_2 (some ⟨b1, 0, none⟩) (some ⟨b0, 0, none⟩) (IntKind.wrap .i64 (x_11 + 1))) law22_SessionDoes_m1 w') :
    law22_SessionDoes_C2 x_0 a_2 n_2 c_2 (some ⟨b0, 0, none⟩) (some ⟨b1, 0, none⟩) x_11 bm0 x_m0_0 x_m0_1 s_m0_2 x_m0_3 x_m0_4 x_m0_5 x_m0_6 x_m0_7 x_m0_8 a_m0_9 n_m0_9 c_m0_9 s_m0_10 s_m0_11 x_m0_12 t_m0_13 a_m0_14 n_m0_14 c_m0_14 x_m0_15 x_m0_16 x_m0_17 x_m0_18 x_m0_19 x_m0_20 x_m0_21 x_m0_22 x_m0_23 x_m0_24 a_m0_25 n_m0_25 c_m0_25 x_m0_26 x_m0_27 x_m0_28 x_m0_29 a_m0_30 n_m0_30 c_m0_30 a_m0_31 n_m0_31 c_m0_31 bm1 x_m1_0 s_m1_1 x_m1_2 x_m1_3 x_m1_4 x_m1_5 x_m1_6 x_m1_7 a_m1_8 n_m1_8 c_m1_8 s_m1_9 s_m1_10 x_m1_11 t_m1_12 a_m1_13 n_m1_13 c_m1_13 bm2 x_m2_0 x_m2_1 x_m2_2 x_m2_3 x_m2_4 x_m2_5 x_m2_6 x_m2_7 x_m2_8 x_m2_9 a_m2_10 n_m2_10 c_m2_10 x_m2_11 x_m2_12 x_m2_13 x_m2_14 a_m2_15 n_m2_15 c_m2_15 a_m2_16 n_m2_16 c_m2_16 K1 R w := by
  refine (Waits_ok S).mono ?_
  rintro _ w1 ⟨u1, rfl, h1, M1⟩
  have h1 : ∃ q : CV, u1 = .tuple #[q.v, .bool o.isSome] ∧ OpOwn w1 0 q.x.op q.rs q.ts ∧ q.x = o.getD cv0.x := by
    cases o with
    | none => exact ⟨cv0, h1, ⟨Row.nil .., Row.nil .., by simp [cv0, op0, batch0], by simp [cv0, op0]⟩, rfl⟩
    | some c => obtain ⟨rs, ts, h1, h2⟩ := h1; exact ⟨⟨c, rs, ts⟩, h1, h2.rebase (Nat.zero_le _), rfl⟩
  obtain ⟨q1, rfl, o1, x1⟩ := h1
  refine ⟨_, _, _, _, _, _, _, _, _, _, _, _, _, _, _, _, _, _, _, _, _, rfl, Keep.of0 M1, ?_⟩
  intro b3 f3 w2 A2
  have N2 := M1.go0 A2.mod (by simp)
  refine (RWaits_ok (K.keep0 N2)).mono ?_
  rintro _ w3 ⟨u2, rfl, h2, M3⟩
  have N3 := N2.go0 M3 (by simp)
  have h2 : ∃ q : CV, u2 = .tuple #[q.v, .bool o.isSome] ∧ OpOwn w3 0 q.x.op q.rs q.ts ∧ q.x = o.getD cv0.x := by
    cases o with
    | none => exact ⟨cv0, h2, ⟨Row.nil .., Row.nil .., by simp [cv0, op0, batch0], by simp [cv0, op0]⟩, rfl⟩
    | some c => obtain ⟨rs, ts, h2, h3⟩ := h2; exact ⟨⟨c, rs, ts⟩, h2, h3, rfl⟩
  obtain ⟨q2, rfl, o2, x2⟩ := h2
  refine ⟨_, _, _, _, _, _, _, _, _, _, _, _, _, _, _, _, _, _, _, _, _, rfl, Keep.of0 M3, ?_⟩
  intro b4 f4
  have o13 := (o1.keep0 A2.mod).keep0 M3
  have at1 : ∀ {b : Nat} {q : CV} {w' : World}, w'.heap[b]? = some (.cells q.cs.toArray 57) → OpOwn w' 0 q.x.op q.rs q.ts → CallsAt w' ⟨some ⟨b, 0, none⟩, 1, 1⟩ [q.x] := fun {b q w'} hb hq => ⟨[q], SlAt.one (enc := CV.cs) (x := q) (T := 57) hb, fun y hy => by simp at hy; subst hy; exact hq.at, rfl⟩
  have rest : ∀ {w6 w7 : World} {es : List Nat} , Mod [] w3 w6 → Mod [] w6 w7 → (Keep [bm0, bm1, bm2, b3, b4] w6 w7 ∧ brB (!(decide ([q1.x] = [q2.x]))) (R (.bool false) w7) (
      ckPtr (some ⟨b1, 0, none⟩) fun q214 =>
          ldInt .i64 w7 (Addr.add q214 3) fun x215 =>
          Calls Tryz.prog 29 #[(.pointer (some ⟨b0, 0, none⟩))] w7 fun e w216 => ∃ x217 : Int, e = .returned (.int .i64 x217) ∧ Keep [bm0, bm1, bm2, b3, b4] w7 w216 ∧ (ldInt .i64 w216 (Addr.add q214 3) fun x218 => ((.int .i64 x218) : Value) = (.int .i64 x215)) ∧
          brB (x217 != x215) (
            R (.bool false) w216)
          (
            K1 (law22_SessionDoes_v1 x_0 a_2 n_2 c_2 (some ⟨b1, 0, none⟩) (some ⟨b0, 0, none⟩) (IntKind.wrap .i64 (x_11 + 1))) (law22_SessionDoes_m1) w216))) := fun {w6 w7 es} M6 M7 => by
    refine ⟨Keep.of0 M7, brF (by rw [x1, x2]; simp) (ckPtr_of ?_)⟩
    have N7 := (N3.go0 M6 (by simp)).go0 M7 (by simp)
    obtain ⟨qk, hk, _⟩ := (K.keep0 N7).obj
    refine ldInt_of (x := v) (by rw [addr_add, Nat.zero_add, cell_at hk]; rfl) ?_
    refine (View_ok (S.keep0 N7)).mono ?_
    rintro _ w8 ⟨rfl, M8⟩
    refine ⟨_, rfl, Keep.of0 M8, ldInt_of (x := v) (by rw [addr_add, Nat.zero_add, cell_at (M8.keep0 hk)]; rfl) rfl, brF (by simp) (k w8 (N7.go0 M8 (by simp)))⟩
  refine ⟨brF (by simp) ?_, brF (by simp) ?_⟩
  · intro w5 A5
    refine al_of fun b5 w6 c6 M6 f6 => ?_
    refine al_of fun b7 w7 c7 M7 f7 => ?_
    have K7 : Mod [] w3 w7 := (A5.mod.go0 M6 (by simp)).go0 M7 (by simp)
    refine (CallsR_ok (s := ⟨some ⟨b7, 0, none⟩, 1, 1⟩) (t := ⟨some ⟨b5, 0, none⟩, 1, 1⟩) (at1 (q := q1) c7 (o13.keep0 K7)) (at1 (q := q2) (M7.keep0 c6) (o2.keep0 K7)) (by simp)).mono ?_
    rintro _ w8 ⟨rfl, M8⟩
    exact ⟨_, rfl, rest (es := []) K7 M8⟩
  · intro w5 A5
    refine al_of fun b5 w6 c6 M6 f6 => ?_
    refine al_of fun b7 w7 c7 M7 f7 => ?_
    have K7 : Mod [] w3 w7 := (A5.mod.go0 M6 (by simp)).go0 M7 (by simp)
    refine (CallsR_ok (s := ⟨some ⟨b5, 0, none⟩, 1, 1⟩) (t := ⟨some ⟨b7, 0, none⟩, 1, 1⟩) (at1 (q := q1) (M7.keep0 c6) (o13.keep0 K7)) (at1 (q := q2) c7 (o2.keep0 K7)) (by simp)).mono ?_
    rintro _ w8 ⟨rfl, M8⟩
    exact ⟨_, rfl, rest (es := []) K7 M8⟩
end Go.Proofs.YtohgihgddknmmaaGreat

/- SessionDoes: the law. -/
namespace Go.Proofs.YtohgihgddknmmaaGreat
open Go Go.RowKit
set_option linter.unusedVariables false
set_option linter.unusedSimpArgs false

set_option maxHeartbeats 8000000 in
set_option maxRecDepth 20000 in
theorem SDoes_law {a : Option Addr} {nn c : Nat} {sl : List KV} (cl rp : Int) (w : World) (h : SlAt w 32 KV.cs a nn sl) (hO : ∀ q ∈ sl, KVRd w q) :
    Calls Tryz.prog 3 #[.int .i64 cl, .int .i64 rp, .slice a nn c] w fun e w' => e = .returned (.bool true) ∧ Mod [] w w' := by
  have hen := h.1
  refine go_of (law22_SessionDoes_go ?_)
  have fin : ∀ {w'}, Mod [] w w' → Calls Tryz.prog 12 #[] w' fun e w151 => ∃ t152 : Bool, e = .returned (.bool t152) ∧ ((Value.bool t152 : Value) = .bool true ∧ Mod [] w w151) := fun {w'} N => by
    refine (Fixed_ok w').mono ?_
    rintro e w6 ⟨rfl, M6⟩
    exact ⟨_, rfl, rfl, N.go0 M6 (by simp)⟩
  refine (New_ok w).mono ?_
  rintro e w1 ⟨_, rfl, hN, M1⟩
  by_cases hg : 1 ≤ cl ∧ cl ≤ 1099511627776 ∧ mayB rp = true
  rotate_left
  · rw [if_neg hg] at hN
    subst hN
    refine ⟨_, _, rfl, ?_⟩
    refine (RNew_ok w1).mono ?_
    rintro e w2 ⟨_, rfl, hN2, M2⟩
    rw [if_neg hg] at hN2
    subst hN2
    exact ⟨_, _, rfl, brF (by simp) (brF (by simp) (brT (by simp) (fin (M1.go0 M2 (by simp)))))⟩
  rw [if_pos hg] at hN
  obtain ⟨b00, rfl, hb0, S1⟩ := hN
  refine ⟨_, _, rfl, ?_⟩
  refine (RNew_ok w1).mono ?_
  rintro e w2 ⟨_, rfl, hN2, M2⟩
  rw [if_pos hg] at hN2
  obtain ⟨b1, rfl, hb1, K2⟩ := hN2
  have s1 := M1.size
  refine ⟨_, _, rfl, brF (by simp) (brF (by simp) (brF (by simp) (brF (by simp) ?_)))⟩
  have D2 : Duo w w2 b00 b1 cl rp 0 0 none := ⟨S1.keep0 M2, K2, M1.go0 M2 (by simp), hb0, by omega, by omega, by omega, fun c hc => by cases hc⟩
  obtain ⟨hcl1, hcl2, hrp⟩ := hg
  refine law22_SessionDoes_rule1 (fun mm p7 x11 w' => ∃ (i b0 : Nat) (n v : Int) (o : Option PCall), x11 = i ∧ i ≤ sl.length ∧ i ≤ 60 ∧ p7 = some ⟨b0, 0, none⟩ ∧ Duo w w' b0 b1 cl rp n v o ∧ mm = sl.length - i) sl.length ⟨0, b00, 0, 0, none, rfl, by omega, by omega, rfl, D2, rfl⟩ ?_
  rintro mm p7 x11 w3 ⟨i, b0, n, v, o, rfl, hi, hi60, rfl, D3, rfl⟩
  refine brB_dec (fun hlt => ?_) fun hge => fin D3.mod
  refine brB_dec (fun hlt2 => ?_) fun hge => fin D3.mod
  obtain ⟨q, hq⟩ : ∃ q, sl[i]? = some q := ⟨_, List.getElem?_eq_getElem (by omega)⟩
  have hrd := hO q (List.mem_of_getElem? hq)
  have ek : IntKind.wrap .i64 ((i : Int) + 1) = ((i + 1 : Nat) : Int) := by rw [wrap_id (by omega) (by omega)]; omega
  refine (h.keep0 D3.mod).ix hq fun ad had => ldKV_of had ?_
  intro b4 f4 w4 A4
  have l4 := A4.lt b4 (by simp)
  have D4 := D3.keep0 A4.mod
  have s4 := A4.mod.size
  refine (CutX_ok (hrd.o.keep0 D4.mod)).mono ?_
  rintro _ w5 ⟨_, rfl, rs, ts, rfl, hop, M5⟩
  have s5 := M5.size
  have D5 := D4.keep0 M5
  refine ⟨_, _, _, _, _, _, _, _, _, _, _, _, _, _, _, _, _, _, rfl, Keep.of0 M5, ?_⟩
  intro b6 f6 w6 A6
  have l6 := A6.lt b6 (by simp)
  have D6 := D5.keep0 A6.mod
  have s6 := A6.mod.size
  refine (MCut_ok (hrd.m.keep0 D6.mod)).mono ?_
  rintro _ w7 ⟨_, rfl, sm, fm, pm, rfl, hM7, M7⟩
  have s7 := M7.size
  have D7 := D6.keep0 M7
  have hop7 := (hop.keep0 A6.mod).keep0 M7
  have hb0lt := D3.s.lt
  have hb1lt := D3.k.lt
  have hlc : (cutCs q.m.m.calls).length ≤ 100000 := by unfold cutCs; rw [List.length_map, List.length_take]; omega
  refine ⟨_, _, _, _, _, _, _, _, _, _, _, _, _, _, _, _, _, _, _, _, _, _, _, rfl, Keep.of0 M7, ?_⟩
  intro b7 f7
  refine brB_of (fun g0 => ?_) fun g0 => ?_
  · -- a call
    intro w8 A8
    have s8 := A8.mod.size
    have l7 := A8.lt b7 (by simp)
    have D8 := D7.keep0 A8.mod
    have hop8 := hop7.keep0 A8.mod
    refine (Call_ok D8.s (op := cutO q.o.o) (rs := rs) (ts := ts) (fun w' M => (hop8.apartS D8.s M).at) D8.hv hrp D8.hn.1).mono ?_
    rintro _ w9 ⟨_, rfl, M9, h9⟩
    have s9 := M9.size
    have K9 := D8.k.keepS D8.s M9
    have hop9 := hop8.apartS D8.s M9
    have N9 : Mod [] w w9 := D8.mod.go0 M9 (by simpa using D8.le0)
    by_cases hE : callE (cutO q.o.o) n o = 0
    · rw [if_pos hE] at h9
      obtain ⟨s', rfl, hMa, S9⟩ := h9
      refine ⟨_, _, _, _, _, _, _, _, _, _, _, _, _, _, _, _, _, _, _, _, _, _, _, _, rfl, Keep.of M9 fun b hb _ hn => by simp at hb hn; omega, ?_⟩
      intro b10 f10 w10 A10
      have s10 := A10.mod.size
      have l10 := A10.lt b10 (by simp)
      have K10 := K9.keep0 A10.mod
      refine (RCall_ok K10 (op := cutO q.o.o) (rs := rs) (ts := ts) (hop9.keep0 A10.mod) D8.hv hrp D8.hn.1 D8.hn.2).mono ?_
      rintro _ w11 ⟨_, rfl, M11, h11⟩
      have s11 := M11.size
      rw [if_pos hE] at h11
      obtain ⟨s2, rfl, hMb, K11⟩ := h11
      refine ⟨_, _, _, _, _, _, _, _, _, _, _, _, _, _, _, _, _, _, _, _, _, _, _, _, rfl, Keep.of M11 fun b hb _ hn => by simp at hb hn; omega, ?_⟩
      intro b12 f12 w12 A12
      have hMa12 := ((hMa.keep0 A10.mod).apartK K10 M11).keep0 A12.mod
      refine (MailR_ok hMa12.at (hMb.keep0 A12.mod).at (by simp [askM])).mono ?_
      rintro _ w13 ⟨rfl, M13⟩
      refine ⟨_, rfl, Keep.of0 M13, brF (by simp) (brF (by simp) ?_)⟩
      have N13 : Mod [] w w13 := (((N9.go0 A10.mod (by simp)).go0 M11 (by simpa using D8.le1)).go0 A12.mod (by simp)).go0 M13 (by simp)
      have hnl := callE_lt hE
      have hn8 := D8.hn
      have D13 : Duo w w13 b0 b1 cl rp (n + 1) v (some ⟨cl, n + 1, cutO q.o.o⟩) := ⟨(((S9.keep0 A10.mod).keepR K10 M11).keep0 A12.mod).keep0 M13, (K11.keep0 A12.mod).keep0 M13, N13, D8.le0, D8.le1, by omega, D8.hv, fun c hc => by cases hc; rfl⟩
      exact law22_SessionDoes_at2 (SDoes_tail D13.s D13.k fun w6 M6 => law22_SessionDoes_leaf1 (sl.length - (i + 1)) (by omega) ⟨i + 1, _, _, _, _, ek, by omega, by omega, rfl, D13.keep0 M6, rfl⟩)
    · rw [if_neg hE] at h9
      obtain ⟨rfl, S9⟩ := h9
      refine ⟨_, _, _, _, _, _, _, _, _, _, _, _, _, _, _, _, _, _, _, _, _, _, _, _, rfl, Keep.of M9 fun b hb _ hn => by simp at hb hn; omega, ?_⟩
      intro b10 f10 w10 A10
      have s10 := A10.mod.size
      have l10 := A10.lt b10 (by simp)
      have K10 := K9.keep0 A10.mod
      refine (RCall_ok K10 (op := cutO q.o.o) (rs := rs) (ts := ts) (hop9.keep0 A10.mod) D8.hv hrp D8.hn.1 D8.hn.2).mono ?_
      rintro _ w11 ⟨_, rfl, M11, h11⟩
      have s11 := M11.size
      rw [if_neg hE] at h11
      obtain ⟨rfl, K11⟩ := h11
      refine ⟨_, _, _, _, _, _, _, _, _, _, _, _, _, _, _, _, _, _, _, _, _, _, _, _, rfl, Keep.of M11 fun b hb _ hn => by simp at hb hn; omega, ?_⟩
      intro b12 f12 w12 A12
      have m0 : MailAt w12 mail0 nilS nilS nilS := ⟨⟨[], (Row.nil w12 0 57 16 CV.cs).sl CV.cs_len, by simp, rfl⟩, ⟨(Row.nil w12 0 152 5 encF).sl encF_len, (Row.nil w12 0 32 2 encP).sl encP_len, by simp [mail0, rep00], by simp [mail0, rep00]⟩⟩
      refine (MailR_ok m0 m0 (by simp [mail0])).mono ?_
      rintro _ w13 ⟨rfl, M13⟩
      refine ⟨_, rfl, Keep.of0 M13, brF (by simp) (brF (by simp) ?_)⟩
      have N13 : Mod [] w w13 := (((N9.go0 A10.mod (by simp)).go0 M11 (by simpa using D8.le1)).go0 A12.mod (by simp)).go0 M13 (by simp)
      have D13 : Duo w w13 b0 b1 cl rp n v o := ⟨(((S9.keep0 A10.mod).keepR K10 M11).keep0 A12.mod).keep0 M13, (K11.keep0 A12.mod).keep0 M13, N13, D8.le0, D8.le1, D8.hn, D8.hv, D8.hc⟩
      exact law22_SessionDoes_at2 (SDoes_tail D13.s D13.k fun w6 M6 => law22_SessionDoes_leaf1 (sl.length - (i + 1)) (by omega) ⟨i + 1, _, _, _, _, ek, by omega, by omega, rfl, D13.keep0 M6, rfl⟩)
  refine brB_of (fun g1 => ?_) fun g1 => ?_
  · -- called again
    intro w8 A8
    have s8 := A8.mod.size
    have l7 := A8.lt b7 (by simp)
    have D8 := D7.keep0 A8.mod
    refine (Retry_ok hrp D8.s).mono ?_
    rintro _ w9 ⟨_, rfl, sa, rfl, hA9, M9⟩
    have s9 := M9.size
    refine ⟨_, _, _, rfl, Keep.of0 M9, ?_⟩
    refine (RRetry_ok hrp (D8.k.keep0 M9)).mono ?_
    rintro _ w10 ⟨_, rfl, sb, rfl, hB10, M10⟩
    have s10 := M10.size
    refine ⟨_, _, _, rfl, Keep.of0 M10, ?_⟩
    have hA10 := mails_keep hA9 M10
    refine (AllR_ok hA10 hB10 (retry_len hrp o).1 (retry_len hrp o).2).mono ?_
    rintro _ w11 ⟨rfl, M11⟩
    have s11 := M11.size
    refine ⟨_, rfl, Keep.of0 M11, brF (by simp) ?_⟩
    obtain ⟨ll, hr11, ho11, hx11⟩ := mails_keep hA10 M11
    have K811 : Mod [] w8 w11 := (M9.go0 M10 (by simp)).go0 M11 (by simp)
    have hll : ll.length ≤ 1000000 := by have := (retry_len hrp o (cl := cl)).1; rw [← hx11, List.length_map] at this; exact this
    have hsn := hr11.1
    refine law22_SessionDoes_rule3 (fun mm x w' => ∃ j : Nat, x = j ∧ j ≤ ll.length ∧ MailsRaw w' w8.heap.size sa ll ∧ Mod [] w8 w' ∧ mm = ll.length - j) ll.length ⟨0, rfl, by omega, ⟨hr11, fun y hy => (ho11 y hy).calls.raw⟩, K811, rfl⟩ ?_
    rintro mm x w12 ⟨j, rfl, hj, hR12, K12, rfl⟩
    refine brB_dec (fun hlt => ?_) fun hge => ?_
    rotate_left
    · have D12 := D8.keep0 K12
      exact law22_SessionDoes_at2 (SDoes_tail D12.s D12.k fun w6 M6 => law22_SessionDoes_leaf1 (sl.length - (i + 1)) (by omega) ⟨i + 1, _, _, _, _, ek, by omega, by omega, rfl, D12.keep0 M6, rfl⟩)
    obtain ⟨y, hy⟩ : ∃ y, ll[j]? = some y := ⟨_, List.getElem?_eq_getElem (by omega)⟩
    have hym := List.mem_of_getElem? hy
    have hyn : y.s.n ≤ 1000000 := by
      have h1 := (ho11 y hym).calls
      obtain ⟨l2, h2, _, h3⟩ := h1
      have h4 := (retry_len hrp o (cl := cl)).2 y.m (by rw [← hx11]; exact List.mem_map.2 ⟨y, hym, rfl⟩)
      rw [← h3, List.length_map] at h4
      rw [h2.1]; exact h4
    refine law22_SessionDoes_rule4 (fun mm x w' => ∃ t : Nat, x = t ∧ t ≤ y.s.n ∧ MailsRaw w' w8.heap.size sa ll ∧ Mod [] w8 w' ∧ mm = y.s.n - t) y.s.n ⟨0, rfl, by omega, hR12, K12, rfl⟩ ?_
    rintro mm x w13 ⟨t, rfl, ht, hR13, K13, rfl⟩
    have sl13 := hR13.row.sl MV.cs_len
    refine sl13.ix hy fun ad had => ldSlice_of (had 10 _ rfl) ?_
    refine brB_dec (fun hlt4 => ?_) fun hge4 => ?_
    · refine sl13.ix hy fun ad had => ldSlice_of (had 10 _ rfl) ?_
      refine (hR13.raw y hym).write (by omega) fun g w14 hg hc M14 hkp => ?_
      have hg8 : ∀ k ∈ [g], w8.heap.size ≤ k := by simpa using hg
      refine ⟨Keep.of M14 fun b hb _ hn => by simp at hb hn; omega, ?_⟩
      refine law22_SessionDoes_leaf4 (y.s.n - (t + 1)) (by omega) ⟨t + 1, by rw [wrap_id (by omega) (by omega)]; omega, by omega, ⟨hR13.row.keep M14 fun ad ha hk => ?_, fun z hz => hkp _ _ (hR13.raw z hz)⟩, K13.go0 M14 hg8, rfl⟩
      simp at hk
      obtain ⟨_, cur, hcur⟩ := hR13.row.block ad ha
      obtain ⟨cur2, hcur2⟩ := hc
      rw [hk, hcur2] at hcur; cases hcur
    · exact law22_SessionDoes_leaf3 (ll.length - (j + 1)) (by omega) ⟨j + 1, by rw [wrap_id (by omega) (by omega)]; omega, by omega, hR13, K13, rfl⟩
  refine brB_of (fun g2 => ?_) fun g2 => ?_
  · -- heard
    refine brB_of (fun g3 => ?_) fun g3 => ?_
    · refine ckPtr_of ?_
      intro w8 A8
      have s8 := A8.mod.size
      have l7 := A8.lt b7 (by simp)
      have D8 := D7.keep0 A8.mod
      obtain ⟨qk, hk8, _⟩ := D8.k.obj
      refine ldInt_of (x := n) (by rw [addr_add, Nat.zero_add, cell_at hk8]; rfl) ?_
      intro w8' A8'
      have s8' := A8'.mod.size
      have D8' : Duo w w8' b0 b1 cl rp n v o := by
        have K : Mod [] w7 w8' := A8.mod.go0 A8'.mod (by simpa using f7)
        exact D7.keep0 K
      obtain ⟨mx, hmx⟩ : ∃ mx : PMail, mx = ⟨q.m.m.kind, q.m.m.fr, cl, q.m.m.view, q.m.m.normal, q.m.m.last, q.m.m.commit, q.m.m.nonce, q.m.m.base, n, cutCs q.m.m.calls, cutRep q.m.m.r⟩ := ⟨_, rfl⟩
      have hM8 : MailOwn w8' w6.heap.size mx sm fm pm := by
        have K : Mod [] w7 w8' := A8.mod.go0 A8'.mod (by simpa using f7)
        have := hM7.keep0 K
        rw [hmx]; exact ⟨this.calls, this.rep⟩
      have hlc : mx.calls.length ≤ 100000 := by rw [hmx]; exact hlc
      have ev : (cutM q.m.m).kind = mx.kind := by rw [hmx]; rfl
      have goalv : (Value.agg #[.int .i64 (cutM q.m.m).kind, .int .i64 (cutM q.m.m).fr, .int .i64 cl, .int .i64 (cutM q.m.m).view, .int .i64 (cutM q.m.m).normal, .int .i64 (cutM q.m.m).last, .int .i64 (cutM q.m.m).commit, .int .i64 (cutM q.m.m).nonce, .int .i64 (cutM q.m.m).base, .int .i64 n, .slice sm.a sm.n sm.c, .int .i64 (cutM q.m.m).r.e, .int .i64 (cutM q.m.m).r.off, .int .i64 (cutM q.m.m).r.n, .int .i64 (cutM q.m.m).r.gen, .slice fm.a fm.n fm.c, .slice pm.a pm.n pm.c]) = mx.v sm fm pm := by rw [hmx]; rfl
      rw [goalv]
      clear hM7 goalv ev
      refine (Hear_ok (ec := mailE mx) (m := mx) (s := sm) (f := fm) (p := pm) (D8'.s) (fun w' M => MsgCheck_ok ((hM8.at.keep0 M).w hlc)) (fun _ => ⟨hlc, fun w' M => (hM8.apartS D8'.s M).at⟩)).mono ?_
      rintro _ w9 ⟨_, rfl, M9, h9⟩
      have s9 := M9.size
      have hlt0 := D8'.s.lt
      have hlt1 := D8'.k.lt
      have hK9 := D8'.k.keepS D8'.s M9
      have hM9 := hM8.apartS D8'.s M9
      have N9 : Mod [] w w9 := D8'.mod.go0 M9 (by simpa using D8'.le0)
      by_cases hh : heardB (mailE mx) mx cl o = true
      · rw [if_pos hh] at h9
        obtain ⟨f9, p9, rfl, hR9, hS9⟩ := h9
        refine ⟨_, _, _, _, _, _, _, _, _, _, _, rfl, Keep.of M9 fun b hb _ hn => by simp at hb hn; omega, ?_⟩
        intro b10 f10 w10 A10
        have s10 := A10.mod.size
        refine (RHear_ok (hK9.keep0 A10.mod) D3.hc (hM9.keep0 A10.mod).at hlc).mono ?_
        rintro _ w11 ⟨_, rfl, M11, h11⟩
        rw [if_pos hh] at h11
        obtain ⟨rfl, hK11⟩ := h11
        have s11 := M11.size
        refine ⟨_, _, _, _, _, _, _, _, _, _, _, rfl, Keep.of M11 fun b hb _ hn => by simp at hb hn; omega, ?_⟩
        intro b12 f12 w12 A12
        have hR12 := ((hR9.keep0 A10.mod).apartK (hK9.keep0 A10.mod) M11).keep0 A12.mod
        have hM12 := ((hM9.keep0 A10.mod).apartK (hK9.keep0 A10.mod) M11).keep0 A12.mod
        refine (RAlike_ok hR12.at hM12.at.rep).mono ?_
        rintro _ w13 ⟨rfl, M13⟩
        refine ⟨_, rfl, Keep.of0 M13, brF (by simp) (brF (by simp) ?_)⟩
        have N13 : Mod [] w w13 := (((N9.go0 A10.mod (by simp)).go0 M11 (by simpa using D3.le1)).go0 A12.mod (by simp)).go0 M13 (by simp)
        have D13 : Duo w w13 b0 b1 cl rp n (if mx.view > v then mx.view else v) none := ⟨(((hS9.keep0 A10.mod).keepR (hK9.keep0 A10.mod) M11).keep0 A12.mod).keep0 M13, (hK11.keep0 A12.mod).keep0 M13, N13, D3.le0, D3.le1, D3.hn, by have := D3.hv; split <;> omega, fun c hc => by cases hc⟩
        exact law22_SessionDoes_at2 (SDoes_tail D13.s D13.k fun w6 M6 => law22_SessionDoes_leaf1 (sl.length - (i + 1)) (by omega) ⟨i + 1, _, _, _, _, ek, by omega, by omega, rfl, D13.keep0 M6, rfl⟩)
      · have hh' : heardB (mailE mx) mx cl o = false := by simpa using hh
        rw [if_neg hh] at h9
        obtain ⟨rfl, hS9⟩ := h9
        refine ⟨_, _, _, _, _, _, _, _, _, _, _, rfl, Keep.of M9 fun b hb _ hn => by simp at hb hn; omega, ?_⟩
        intro b10 f10 w10 A10
        have s10 := A10.mod.size
        refine (RHear_ok (hK9.keep0 A10.mod) D3.hc (hM9.keep0 A10.mod).at hlc).mono ?_
        rintro _ w11 ⟨_, rfl, M11, h11⟩
        rw [if_neg hh] at h11
        obtain ⟨rfl, hK11⟩ := h11
        have s11 := M11.size
        refine ⟨_, _, _, _, _, _, _, _, _, _, _, rfl, Keep.of M11 fun b hb _ hn => by simp at hb hn; omega, ?_⟩
        intro b12 f12 w12 A12
        have r0 : ∀ w', RepAt w' rep00 nilS nilS := fun w' => ⟨(Row.nil w' 0 152 5 encF).sl encF_len, (Row.nil w' 0 32 2 encP).sl encP_len, by simp [rep00], by simp [rep00]⟩
        refine (RAlike_ok (r0 w12) (r0 w12)).mono ?_
        rintro _ w13 ⟨rfl, M13⟩
        refine ⟨_, rfl, Keep.of0 M13, brF (by simp) (brF (by simp) ?_)⟩
        have N13 : Mod [] w w13 := (((N9.go0 A10.mod (by simp)).go0 M11 (by simpa using D3.le1)).go0 A12.mod (by simp)).go0 M13 (by simp)
        have D13 : Duo w w13 b0 b1 cl rp n v o := ⟨(((hS9.keep0 A10.mod).keepR (hK9.keep0 A10.mod) M11).keep0 A12.mod).keep0 M13, (hK11.keep0 A12.mod).keep0 M13, N13, D3.le0, D3.le1, D3.hn, D3.hv, D3.hc⟩
        exact law22_SessionDoes_at2 (SDoes_tail D13.s D13.k fun w6 M6 => law22_SessionDoes_leaf1 (sl.length - (i + 1)) (by omega) ⟨i + 1, _, _, _, _, ek, by omega, by omega, rfl, D13.keep0 M6, rfl⟩)
    · intro w8 A8
      have s8 := A8.mod.size
      have l7 := A8.lt b7 (by simp)
      have D8 := D7.keep0 A8.mod
      have hM8 := hM7.keep0 A8.mod
      obtain ⟨mx, hmx⟩ : ∃ mx : PMail, mx = cutM q.m.m := ⟨_, rfl⟩
      have hlc : mx.calls.length ≤ 100000 := by rw [hmx]; exact hlc
      rw [← hmx] at hM8
      have goalv : (Value.agg #[.int .i64 (cutM q.m.m).kind, .int .i64 (cutM q.m.m).fr, .int .i64 (cutM q.m.m).to, .int .i64 (cutM q.m.m).view, .int .i64 (cutM q.m.m).normal, .int .i64 (cutM q.m.m).last, .int .i64 (cutM q.m.m).commit, .int .i64 (cutM q.m.m).nonce, .int .i64 (cutM q.m.m).base, .int .i64 (cutM q.m.m).n, .slice sm.a sm.n sm.c, .int .i64 (cutM q.m.m).r.e, .int .i64 (cutM q.m.m).r.off, .int .i64 (cutM q.m.m).r.n, .int .i64 (cutM q.m.m).r.gen, .slice fm.a fm.n fm.c, .slice pm.a pm.n pm.c]) = mx.v sm fm pm := by rw [hmx]; rfl
      rw [goalv]
      clear hM7 goalv
      refine (Hear_ok (ec := mailE mx) (m := mx) (s := sm) (f := fm) (p := pm) (D8.s) (fun w' M => MsgCheck_ok ((hM8.at.keep0 M).w hlc)) (fun _ => ⟨hlc, fun w' M => (hM8.apartS D8.s M).at⟩)).mono ?_
      rintro _ w9 ⟨_, rfl, M9, h9⟩
      have s9 := M9.size
      have hlt0 := D8.s.lt
      have hlt1 := D8.k.lt
      have hK9 := D8.k.keepS D8.s M9
      have hM9 := hM8.apartS D8.s M9
      have N9 : Mod [] w w9 := D8.mod.go0 M9 (by simpa using D8.le0)
      by_cases hh : heardB (mailE mx) mx cl o = true
      · rw [if_pos hh] at h9
        obtain ⟨f9, p9, rfl, hR9, hS9⟩ := h9
        refine ⟨_, _, _, _, _, _, _, _, _, _, _, rfl, Keep.of M9 fun b hb _ hn => by simp at hb hn; omega, ?_⟩
        intro b10 f10 w10 A10
        have s10 := A10.mod.size
        refine (RHear_ok (hK9.keep0 A10.mod) D3.hc (hM9.keep0 A10.mod).at hlc).mono ?_
        rintro _ w11 ⟨_, rfl, M11, h11⟩
        rw [if_pos hh] at h11
        obtain ⟨rfl, hK11⟩ := h11
        have s11 := M11.size
        refine ⟨_, _, _, _, _, _, _, _, _, _, _, rfl, Keep.of M11 fun b hb _ hn => by simp at hb hn; omega, ?_⟩
        intro b12 f12 w12 A12
        have hR12 := ((hR9.keep0 A10.mod).apartK (hK9.keep0 A10.mod) M11).keep0 A12.mod
        have hM12 := ((hM9.keep0 A10.mod).apartK (hK9.keep0 A10.mod) M11).keep0 A12.mod
        refine (RAlike_ok hR12.at hM12.at.rep).mono ?_
        rintro _ w13 ⟨rfl, M13⟩
        refine ⟨_, rfl, Keep.of0 M13, brF (by simp) (brF (by simp) ?_)⟩
        have N13 : Mod [] w w13 := (((N9.go0 A10.mod (by simp)).go0 M11 (by simpa using D3.le1)).go0 A12.mod (by simp)).go0 M13 (by simp)
        have D13 : Duo w w13 b0 b1 cl rp n (if mx.view > v then mx.view else v) none := ⟨(((hS9.keep0 A10.mod).keepR (hK9.keep0 A10.mod) M11).keep0 A12.mod).keep0 M13, (hK11.keep0 A12.mod).keep0 M13, N13, D3.le0, D3.le1, D3.hn, by have := D3.hv; split <;> omega, fun c hc => by cases hc⟩
        exact law22_SessionDoes_at2 (SDoes_tail D13.s D13.k fun w6 M6 => law22_SessionDoes_leaf1 (sl.length - (i + 1)) (by omega) ⟨i + 1, _, _, _, _, ek, by omega, by omega, rfl, D13.keep0 M6, rfl⟩)
      · have hh' : heardB (mailE mx) mx cl o = false := by simpa using hh
        rw [if_neg hh] at h9
        obtain ⟨rfl, hS9⟩ := h9
        refine ⟨_, _, _, _, _, _, _, _, _, _, _, rfl, Keep.of M9 fun b hb _ hn => by simp at hb hn; omega, ?_⟩
        intro b10 f10 w10 A10
        have s10 := A10.mod.size
        refine (RHear_ok (hK9.keep0 A10.mod) D3.hc (hM9.keep0 A10.mod).at hlc).mono ?_
        rintro _ w11 ⟨_, rfl, M11, h11⟩
        rw [if_neg hh] at h11
        obtain ⟨rfl, hK11⟩ := h11
        have s11 := M11.size
        refine ⟨_, _, _, _, _, _, _, _, _, _, _, rfl, Keep.of M11 fun b hb _ hn => by simp at hb hn; omega, ?_⟩
        intro b12 f12 w12 A12
        have r0 : ∀ w', RepAt w' rep00 nilS nilS := fun w' => ⟨(Row.nil w' 0 152 5 encF).sl encF_len, (Row.nil w' 0 32 2 encP).sl encP_len, by simp [rep00], by simp [rep00]⟩
        refine (RAlike_ok (r0 w12) (r0 w12)).mono ?_
        rintro _ w13 ⟨rfl, M13⟩
        refine ⟨_, rfl, Keep.of0 M13, brF (by simp) (brF (by simp) ?_)⟩
        have N13 : Mod [] w w13 := (((N9.go0 A10.mod (by simp)).go0 M11 (by simpa using D3.le1)).go0 A12.mod (by simp)).go0 M13 (by simp)
        have D13 : Duo w w13 b0 b1 cl rp n v o := ⟨(((hS9.keep0 A10.mod).keepR (hK9.keep0 A10.mod) M11).keep0 A12.mod).keep0 M13, (hK11.keep0 A12.mod).keep0 M13, N13, D3.le0, D3.le1, D3.hn, D3.hv, D3.hc⟩
        exact law22_SessionDoes_at2 (SDoes_tail D13.s D13.k fun w6 M6 => law22_SessionDoes_leaf1 (sl.length - (i + 1)) (by omega) ⟨i + 1, _, _, _, _, ek, by omega, by omega, rfl, D13.keep0 M6, rfl⟩)
  refine brB_of (fun g3 => ?_) fun g3 => ?_
  · -- a copy
    intro w8 A8
    have s8 := A8.mod.size
    have l7 := A8.lt b7 (by simp)
    have D8 := D7.keep0 A8.mod
    refine (SCopy_ok D8.s).mono ?_
    rintro _ w9 ⟨_, rfl, b9, rfl, f9, S9, M9⟩
    have s9 := M9.size
    refine ⟨_, rfl, Keep.of0 M9, ?_⟩
    refine (tick_ok w9).mono ?_
    rintro _ w10 ⟨rfl, M10⟩
    have s10 := M10.size
    refine ⟨_, _, _, _, _, _, _, _, _, _, _, _, _, _, _, _, _, _, rfl, Keep.of0 M10, ?_⟩
    have D10 := (D8.keep0 M9).keep0 M10
    have hlt0 := D8.s.lt
    refine (Call_ok D10.s (fun w' _ => tick_at w') D10.hv hrp D10.hn.1).mono ?_
    rintro _ w11 ⟨u11, rfl, M11, h11⟩
    have s11 := M11.size
    have h11 : ∃ (mm : PMail) (s f p : Sl) (e n' : Int) (o' : Option PCall), u11 = .tuple #[mm.v s f p, .int .i64 e] ∧ Ses w11 b0 cl rp n' v o' := by
      by_cases hE : callE tickO n o = 0
      · rw [if_pos hE] at h11
        obtain ⟨s', rfl, _, hS⟩ := h11
        exact ⟨_, _, _, _, _, _, _, rfl, hS⟩
      · rw [if_neg hE] at h11
        exact ⟨_, _, _, _, _, _, _, h11.1, h11.2⟩
    obtain ⟨mm, s', f', p', e11, n11, o11, rfl, S11⟩ := h11
    have K11 := D10.k.keepS D10.s M11
    refine ⟨_, _, _, _, _, _, _, _, _, _, _, _, _, _, _, _, _, _, _, _, _, _, _, _, rfl, Keep.of M11 fun b hb _ hn => by simp at hb hn; omega, ckPtr_of ?_⟩
    obtain ⟨qk, hk11, _⟩ := K11.obj
    refine ldInt_of (x := n) (by rw [addr_add, Nat.zero_add, cell_at hk11]; rfl) ?_
    refine (Ans_ok S11 (to := cl) (view := 0) (k := n) (off := 0) (num_of (by omega) hcl2) (by decide) (num_of D10.hn.1 D10.hn.2) (by decide)).mono ?_
    rintro _ w12 ⟨u12, rfl, M12, h12⟩
    have s12 := M12.size
    have h12 : ∃ (r : PRep) (f p : Sl) (t : Bool), u12 = .tuple #[r.v f p, .bool t] := by
      split at h12
      · obtain ⟨f', p', rfl, _⟩ := h12
        exact ⟨_, _, _, _, rfl⟩
      · exact ⟨_, _, _, _, h12.1⟩
    obtain ⟨r12, f12, p12, t12, rfl⟩ := h12
    refine ⟨_, _, _, _, _, _, _, _, _, _, _, rfl, Keep.of M12 fun b hb _ hn => by simp at hb hn; omega, brF rfl ?_⟩
    have S12 : Ses w12 b9 cl rp n v o := ((S9.keep0 M10).above M11 (by simp; omega)).above M12 (by simp; omega)
    have N12 : Mod [] w w12 := (D10.mod.go0 M11 (by simpa using D8.le0)).go0 M12 (by simpa using D8.le0)
    have s0 := D8.mod.size
    have D12 : Duo w w12 b9 b1 cl rp n v o := ⟨S12, K11.keepS S11 M12, N12, by omega, D8.le1, D8.hn, D8.hv, D8.hc⟩
    exact law22_SessionDoes_at2 (SDoes_tail D12.s D12.k fun w6 M6 => law22_SessionDoes_leaf1 (sl.length - (i + 1)) (by omega) ⟨i + 1, _, _, _, _, ek, by omega, by omega, rfl, D12.keep0 M6, rfl⟩)
  · -- nothing
    intro w8 A8
    have D8 := D7.keep0 A8.mod
    exact law22_SessionDoes_at2 (SDoes_tail D8.s D8.k fun w6 M6 => law22_SessionDoes_leaf1 (sl.length - (i + 1)) (by omega) ⟨i + 1, _, _, _, _, ek, by omega, by omega, rfl, D8.keep0 M6, rfl⟩)
end Go.Proofs.YtohgihgddknmmaaGreat

/- A script's calls, as they come in. -/
namespace Go.Proofs.YtohgihgddknmmaaGreat
open Go Go.RowKit
set_option linter.unusedVariables false
set_option linter.unusedSimpArgs false

theorem cKV : Tryz.prog.cellsOf 47 = 32 := by kernel_rfl
theorem inv_op22 (w : World) (row : List Value) (h : OkT Tryz.prog w 47 row) (hl : row.length = Tryz.prog.cellsOf 47) : ∃ x : KV, row = KV.cs x ∧ KVRd w x := by
  rw [cKV] at hl
  match row, hl with
  | a :: t, hl =>
    obtain ⟨_, hf⟩ := h.struct_inv Tryz.underlying47
    simp [cI, cOp, cMl] at hf
    obtain ⟨h1, h2, h3⟩ := hf
    obtain ⟨x1, e1, _⟩ := h1.int_inv Tryz.underlying3
    have hlt : t.length = 31 := by simpa using hl
    obtain ⟨x2, e2, g2⟩ := inv_op w _ h2 (by rw [cOp, List.length_take]; omega)
    obtain ⟨x3, e3, g3⟩ := inv_mail w _ h3 (by rw [cMl]; simp; omega)
    have ht : t = t.take 14 ++ (t.drop 14).take 17 := by
      rw [List.take_of_length_le (l := t.drop 14) (by rw [List.length_drop]; omega), List.take_append_drop]
    simp at e1
    subst e1
    refine ⟨⟨x1, x2, x3⟩, ?_, ⟨g2, g3⟩⟩
    rw [ht, e2, e3]
    rfl
end Go.Proofs.YtohgihgddknmmaaGreat

/- SessionDoes, for every input. No conditions. -/
namespace Go.Proofs.YtohgihgddknmmaaGreat.sessionDoes
open Go.ChangeShapes Go.WideShapes Go.ChangeAt Go.RowKit
open Go.ChangeMaps (open_string shut_string)
set_option linter.unusedVariables false

theorem own : ownKnob Tryz.prog.godebug = none := by kernel_rfl
theorem laidOut : laidOutB Tryz.prog = true := by kernel_rfl

set_option maxRecDepth 100000 in
theorem lifted (os : Os) (started : os.Started) (H : Type) (enc : TypeId × Value → H) :
    ReturnsInHanded {} Tryz.checked os 3 .any (Rows.sessionDoesSpec.pre6 enc Tryz.prog Tryz.f3 Rows.sessionDoesRow.domain false) (Rows.sessionDoesSpec.post enc Tryz.prog Tryz.f3 false true false false) := by
  refine returnsInHanded_of_change (C := Tryz.checked) own started (by kernel_rfl) Tryz.func3
    (ChangeSpec.witness6 (enc := enc) (C := Tryz.checked) false ⟨#[], #[.int .i64 0, .int .i64 0, .slice none 0 0], []⟩ 8 (by kernel_rfl) (by kernel_rfl) (by kernel_rfl) (by kernel_rfl)) ?_
  intro W base args ds gs before hval0 hW hcnd _
  have hval : ∀ (j : Nat) t v, Tryz.f3.params[j]? = some t → args[j]? = some v → Value.okWide Tryz.prog W .any base t v := hval0
  have hW' := hW
  obtain ⟨p, q, hA0, hV, rfl, hfz, hnd⟩ := hW
  have hA : DataW.TrodAll enc Tryz.prog W 0 (fun _ => true) true Tryz.f3.params.toList args.toList ds p := hA0
  rw [Tryz.params3] at hA hval
  obtain ⟨v0, vs0, d0, ds0, p0, q0, hargs, rfl, rfl, h0, r0⟩ := trodAll_cons hA
  obtain ⟨v1, vs1, d1, ds1, p1, q1, rfl, rfl, rfl, h1, r1⟩ := trodAll_cons r0
  obtain ⟨v2, vs2, d2, ds2, p2, q2, rfl, rfl, rfl, h2, r2⟩ := trodAll_cons r1
  obtain ⟨rfl, rfl, rfl⟩ := trodAll_nil r2
  obtain rfl : args = #[v0, v1, v2] := by cases args; simp_all
  obtain ⟨rfl, rfl⟩ := trodVars_none hV
  have k0 := h0
  have lt0 : ∀ x ∈ p0, x.block < W.heap.size := by obtain ⟨m, hm⟩ := k0; exact DataW.trod_lt m _ _ _ hm
  have k1 := h1
  have lt1 : ∀ x ∈ p1, x.block < W.heap.size := by obtain ⟨m, hm⟩ := k1; exact DataW.trod_lt m _ _ _ hm
  have k2 := h2
  have lt2 : ∀ x ∈ p2, x.block < W.heap.size := by obtain ⟨m, hm⟩ := k2; exact DataW.trod_lt m _ _ _ hm
  obtain ⟨a0, rfl, _, _, w0⟩ := open_int Tryz.underlying3 (hval 0 3 v0 rfl rfl) h0
  obtain ⟨a1, rfl, _, _, w1⟩ := open_int Tryz.underlying3 (hval 1 3 v1 rfl rfl) h1
  obtain ⟨b2, len2, cap2, rfl⟩ := okWide_slice Tryz.underlying22 (hval 2 22 v2 rfl rfl)
  obtain ⟨fuel2, hf2⟩ := h2
  obtain ⟨b2', len2', cap2', l2, e2, s2, g2, u2, c2⟩ := (trod_ok hf2).slice_inv Tryz.underlying22 (inv_op22 W)
  simp [Value.cells] at e2
  obtain ⟨rfl, rfl, rfl⟩ := e2
  rw [show Tryz.prog.cellsOf 47 = 32 by kernel_rfl] at s2
  clear hA0 hval0
  refine (SDoes_law a0 a1 W s2 g2).mono fun e W' ⟨he, hM⟩ => ?_
  have bel : Below W.heap.size W W' := hM.below (by simp)
  subst he
  exact ⟨_, rfl, _, _, _, [], _, [], hW', trodAll_mk1 (shut_bool Tryz.underlying4 _), (trodAll_cons_mk (Below.trod laidOut (by kernel_rfl) (of_decide_eq_true (by kernel_rfl)) k0 bel lt0) (trodAll_cons_mk (Below.trod laidOut (by kernel_rfl) (of_decide_eq_true (by kernel_rfl)) k1 bel lt1) (trodAll_cons_mk (Below.trod laidOut (by kernel_rfl) (of_decide_eq_true (by kernel_rfl)) k2 bel lt2) trodAll_mk0))), rfl, bel.frame _, fun h => by cases h⟩

theorem over : Rows.sessionDoesRow.holds Tryz.pinned (OpenSpec.ofChange Rows.sessionDoesSpec) :=
  OpenClaim.holds_of_wide 3 Tryz.f3 rfl rfl rfl rfl rfl rfl rfl ⟨rfl, rfl, rfl, rfl, rfl⟩ rfl rfl rfl rfl rfl (by kernel_rfl) Tryz.func3 (by kernel_rfl)
    (of_decide_eq_true (by kernel_rfl)) (by unfold Func.isWrapper; first | (rw [if_pos (by decide +kernel)]; kernel_rfl) | (rw [if_neg (by decide +kernel)]; exact ⟨rfl, rfl⟩))
    (fun os started H enc _ => lifted os started H enc)

theorem proved : Rows.SessionDoesSaid := over
#print axioms proved
end Go.Proofs.YtohgihgddknmmaaGreat.sessionDoes
