/- A client asks all. -/
import Derived.Sort.LoopGhostIn
import Derived.Test.YtohgihgddknmmaaA6
import Derived.Test.YtohgihgddknmmaaGenA6
namespace Go.Proofs.Ytohgihgddknmmaa
open Go Go.RowKit Go.Shelf
set_option linter.unusedVariables false
set_option linter.unusedSimpArgs false

/-- A message as it is held. -/
structure MV where
  m : PMail
  s : Sl
  f : Sl
  p : Sl
def MV.cs (x : MV) : List Value := x.m.cs x.s x.f x.p
def MV.v (x : MV) : Value := x.m.v x.s x.f x.p
theorem MV.cs_len (x : MV) : x.cs.length = 17 := rfl
theorem MV.cs_one (x : MV) : ∀ u ∈ x.cs, u.oneCell' = true := by simp [MV.cs, PMail.cs, Value.oneCell']
section
attribute [local go_sem] Oper.semAt_some
set_option maxRecDepth 100000 in
set_option maxHeartbeats 2000000 in
theorem Retry1_seq {w0 : World} {S : List Nat} {b1 b0 B : Nat} {cl rp n v : Int} {c : PCall} (hrp : mayB rp = true) (hw : ∀ W, Mod S w0 W → W.heap[b1]? = some (.cells #[.pointer (some ⟨b0, 0, none⟩)] 24) ∧ Ses W b0 cl rp n v (some c)) :
    SeqN Try.prog 37 #[.pointer (some ⟨b1, 0, none⟩)] (fun x : MV => #[x.v]) w0 S (fun k x W => x.m = askM cl k c ∧ MailOwn W B x.m x.s x.f x.p) rp.toNat B := fun l J hJm hJw hY W h0 => by
  have hro : Fence.wide.round = none := rfl
  have hrb : 1 ≤ rp ∧ rp ≤ 7 := by simpa [mayB] using hrp
  refine callsIn_of_wp Try.func37 rfl trivial ?_ hro
  simp only [Try.ntmps37, List.size_toArray, List.length_cons, List.length_nil, Nat.reduceAdd, Nat.reduceSub, Array.replicate_succ, Array.replicate_zero, List.push_toArray, List.append_toArray, List.nil_append, List.cons_append]
  have cells : ∀ {W : World}, Mod S w0 W → W.cell? ⟨b1, 0, none⟩ = some (.pointer (some ⟨b0, 0, none⟩)) ∧ W.cell? ⟨b0, 1, none⟩ = some (.int .i64 rp) := fun {W} hM => by
    obtain ⟨h1, h2⟩ := hw W hM
    obtain ⟨p, h3, _⟩ := h2.obj
    exact ⟨by rw [cell_at h1]; rfl, by rw [cell_at h3]; rfl⟩
  obtain ⟨hc1, hc2⟩ := cells (hJw _ _ h0).1
  gi_wp2
  gi_loopg [8] rp.toNat (fun k i wr => ∃ (j : Nat) (pre : List MV), i = .int .i64 j ∧ (j : Int) ≤ rp ∧ k = rp.toNat - j ∧ pre.length = j ∧ J pre wr)
  case atStart => exact ⟨0, [], rfl, by omega, rfl, rfl, h0⟩
  case round =>
    obtain ⟨j, pre, rfl, hj, hk, hpl, hJ⟩ := hrel
    obtain ⟨hMw, hBw⟩ := hJw _ _ hJ
    obtain ⟨hd1, hd2⟩ := cells hMw
    by_cases hlt : (j : Int) < rp
    · gi_wp2_with (refine ⟨trivial, ?_⟩; gi_at_call 30; refine (callsIn_wide.2 (mail_ok (hw _ hMw).2 (j : Int))).mono ?_; rintro e w' ⟨_, rfl, s', rfl, hM, hM'⟩; obtain ⟨fn, tmps, assign, body, hy, hR⟩ := hY pre ⟨askM cl j c, s', nilS, nilS⟩ w' (hJm _ _ _ hJ hM') ⟨by rw [hpl], hM.rebase hBw⟩ (by omega); dsimp only [MV.v] at hy)
      refine hR.mono ?_
      rintro e W3 ⟨rfl, hJ3⟩
      gi_wp2
      gi_roundg (gk - 1)
      case rel => exact ⟨j + 1, _, by simp, by omega, by omega, by simp [hpl], hJ3⟩
      case measure => omega
    · gi_wp2
      go_end0
      exact ⟨⟨_, rfl⟩, pre, by omega, hJ⟩

theorem RepOwn.keepT {S : List Nat} {w w' : World} {base : Nat} {r : PRep} {f p : Sl} (h : RepOwn w base r f p) (M : Mod S w w') (hS : ∀ k ∈ S, ∀ cs T, w.heap[k]? = some (.cells cs T) → T ≠ 111 ∧ T ≠ 29) : RepOwn w' base r f p :=
  ⟨h.found.keep M fun ad ha hk => by obtain ⟨_, cur, hc⟩ := h.found.block ad ha; exact (hS _ hk _ _ hc).1 rfl,
   h.parts.keep M fun ad ha hk => by obtain ⟨_, cur, hc⟩ := h.parts.block ad ha; exact (hS _ hk _ _ hc).2 rfl, h.lf, h.lp⟩
theorem CallsOwn.keepT {S : List Nat} {w w' : World} {base : Nat} {s : Sl} {xs : List PCall} (h : CallsOwn w base s xs) (M : Mod S w w') (hS : ∀ k ∈ S, ∀ cs T, w.heap[k]? = some (.cells cs T) → T ≠ 48 ∧ T ≠ 90 ∧ T ≠ 9) : CallsOwn w' base s xs := by
  obtain ⟨ll, h1, h2, h3⟩ := h
  exact ⟨ll, h1.keep M fun ad ha hk => by obtain ⟨_, cur, hc⟩ := h1.block ad ha; exact (hS _ hk _ _ hc).1 rfl, fun q hq => (h2 q hq).keep M fun k hk cs T hc => (hS k hk cs T hc).2, h3⟩
theorem MailOwn.keepT {S : List Nat} {w w' : World} {base : Nat} {m : PMail} {s f p : Sl} (h : MailOwn w base m s f p) (M : Mod S w w') (hS : ∀ k ∈ S, ∀ cs T, w.heap[k]? = some (.cells cs T) → (T ≠ 48 ∧ T ≠ 90 ∧ T ≠ 9) ∧ T ≠ 111 ∧ T ≠ 29) : MailOwn w' base m s f p :=
  ⟨h.calls.keepT M fun k hk cs T hc => (hS k hk cs T hc).1, h.rep.keepT M fun k hk cs T hc => (hS k hk cs T hc).2⟩
/-- Messages of one's own. -/
def MailsOwn (w : World) (base : Nat) (s : Sl) (xs : List PMail) : Prop := ∃ ll : List MV, Row w base 44 17 MV.cs s.a s.n s.c ll ∧ (∀ y ∈ ll, MailOwn w base y.m y.s y.f y.p) ∧ ll.map (·.m) = xs
theorem infoMail : (Try.prog.info? 44).map (fun i => (i.zero, i.size, i.bytes)) = some (some (.agg #[.int .i64 0, .int .i64 0, .int .i64 0, .int .i64 0, .int .i64 0, .int .i64 0, .int .i64 0, .int .i64 0, .int .i64 0, .int .i64 0, .slice none 0 0, .int .i64 0, .int .i64 0, .int .i64 0, .int .i64 0, .slice none 0 0, .slice none 0 0]), 17, 184) := by kernel_rfl
def asksL (cl rp : Int) (c : PCall) : List PMail := (List.range rp.toNat).map fun i => askM cl (i : Nat) c
theorem roundOk_mail : roundOk 13 (subR (code Try.f55) [0, 1, 0, 1]) = true := by kernel_rfl
set_option maxRecDepth 100000 in
set_option maxHeartbeats 2000000 in
theorem Append_in {b1 b0 : Nat} {cl rp n v : Int} {c : PCall} (hrp : mayB rp = true) (w : World) (h1 : w.heap[b1]? = some (.cells #[.pointer (some ⟨b0, 0, none⟩)] 24)) (h2 : Ses w b0 cl rp n v (some c)) :
    CallsIn Fence.wide 2 Try.prog 55 #[.slice none 0 0, .func (.func 37) #[] #[.pointer (some ⟨b1, 0, none⟩)]] w fun e w' => ∃ s : Sl, e = .returned (.slice s.a s.n s.c) ∧ MailsOwn w' w.heap.size s (asksL cl rp c) ∧ Mod [] w w' := by
  have hro : Fence.wide.round = none := rfl
  have hrb : 1 ≤ rp ∧ rp ≤ 7 := by simpa [mayB] using hrp
  refine callsIn_of_wp_marks Try.func55 rfl trivial ?_ hro
  simp only [Try.ntmps55, List.size_toArray, List.length_cons, List.length_nil, Nat.reduceAdd, Nat.reduceSub, Array.replicate_succ, Array.replicate_zero, List.push_toArray, List.append_toArray, List.nil_append, List.cons_append]
  gi_wp2
  obtain ⟨W0, hW0⟩ : ∃ W0, w.alloc (Obj.cells #[Value.slice none 0 0] 54) = W0 := ⟨_, rfl⟩
  have hsz : W0.heap.size = w.heap.size + 1 := by rw [← hW0]; simp
  have hB0 : W0.heap[w.heap.size]? = some (.cells #[.slice none 0 0] 54) := by rw [← hW0]; exact World.alloc_heap_new w _
  have hM0 : Mod [] w W0 := by rw [← hW0]; exact Mod.of_below ((Below.refl _ _).alloc (Nat.le_refl _) _)
  rw [hW0]
  clear hW0
  have hMw : ∀ {W}, Mod [w.heap.size] W0 W → Mod [] w W := fun M => hM0.go0 M (by simp)
  have hl0 := h2.lt
  have hl1 := lt_of_block h1
  refine wpIn_range_seq (S := [w.heap.size]) (N := rp.toNat) (encs := fun x : MV => #[x.v]) (X := fun k x W => x.m = askM cl k c ∧ MailOwn W (W0.heap.size + 2) x.m x.s x.f x.p) rfl (enters_of Try.func37 (by kernel_rfl) rfl)
    (Retry1_seq hrp fun W M => ⟨(hMw M).keep0 h1, h2.keep0 (hMw M)⟩) (fun _ => rfl) (by simp; omega)
    (fun pre W => ∃ s : Sl, W.heap[w.heap.size]? = some (.cells #[.slice s.a s.n s.c] 54) ∧ Row W (W0.heap.size + 2) 44 17 MV.cs s.a s.n s.c pre ∧ (∀ y ∈ pre, MailOwn W (W0.heap.size + 2) y.m y.s y.f y.p) ∧ (∀ (i : Nat) y, pre[i]? = some y → y.m = askM cl (i : Nat) c) ∧ Mod [w.heap.size] W0 W)
    ?im ?ip ?is ⟨nilS, hB0, Row.nil .., by simp, by simp, (Mod.refl _).less (by simp)⟩ ?round ?done
  case im =>
    rintro pre W W' ⟨s, hb, hr, ho, hx, hm⟩ M
    exact ⟨s, M.keep0 hb, hr.keep0 M, fun y hy => (ho y hy).keep0 M, hx, (hm.trans M).less (by simp)⟩
  case ip =>
    rintro pre W l o rfl ⟨s, hb, hr, ho, hx, hm⟩
    have M := putObj_mod W (W0.heap.size + 1) (.loop o)
    refine ⟨s, M.keep hb (by simp; omega), hr.keep M fun ad ha hk => ?_, fun y hy => (ho y hy).keepB M (by simp), hx, (hm.trans M).less fun i hi hlt => ?_⟩
    · have := hr.base ad ha; simp at hk; omega
    · simp at hi ⊢; omega
  case is =>
    rintro pre W ⟨s, hb, hr, ho, hx, hm⟩
    exact hm
  case round =>
    rintro pre x W lp ⟨s, hb, hr, ho, hx, hm⟩ hlen ⟨hx1, hx2⟩ hl hD
    obtain ⟨m, sx, fx, px⟩ := x
    simp only [foldZ]
    refine wpIn_mono (round_wpIn (n := 13) (lp := lp) roundOk_mail (f := ⟨[(2, .pointer (some ⟨w.heap.size, 0, none⟩), some (0, 0)), (7, m.v sx fx px, none)], _⟩) (s := ⟨[⟨w.heap.size, 54, [.slice s.a s.n s.c], false⟩], W, [], [], true⟩)
      (R := fun W2 _ _ _ W' => W'.heap[W0.heap.size + 1]? = W2.heap[W0.heap.size + 1]? ∧ W'.heap[W0.heap.size]? = W.heap[W0.heap.size]? ∧ ∃ s : Sl, W'.heap[w.heap.size]? = some (.cells #[.slice s.a s.n s.c] 54) ∧ Row W' (W0.heap.size + 2) 44 17 MV.cs s.a s.n s.c (pre ++ [⟨m, sx, fx, px⟩]) ∧ (∀ y ∈ pre ++ [⟨m, sx, fx, px⟩], MailOwn W' (W0.heap.size + 2) y.m y.s y.f y.p) ∧ (∀ (i : Nat) y, (pre ++ [⟨m, sx, fx, px⟩])[i]? = some y → y.m = askM cl (i : Nat) c) ∧ Mod [w.heap.size] W0 W')
      (Eq.mpr (slices_AppendSeq_api_Mail_api_Mail_round_eq ..) ?cond) (round_inv hb rfl) (round_rel rfl rfl rfl rfl)) ?post
    case cond =>
      intro b2 f2 w2 A2
      have s2 := A2.mod.size
      have hl2 := A2.mod.keep0 hl
      refine ⟨hl2, ?_⟩
      intro w3 M3
      have s3 := M3.size
      have ll2 := lt_of_block' hl2
      refine al_of fun b4 w5 c5 M5 f5 => ?_
      have s5 := M5.size
      have hb1 := hr.base
      have hr5 : Row w5 (W0.heap.size + 2) 44 17 MV.cs s.a s.n s.c pre := ((hr.keep0 A2.mod).keep M3 fun ad ha hk => by have := hb1 ad ha; simp at hk; omega).keep0 M5
      have kp : ∀ {y : MV}, MailOwn W (W0.heap.size + 2) y.m y.s y.f y.p → MailOwn w5 (W0.heap.size + 2) y.m y.s y.f y.p := fun h => ((h.keep0 A2.mod).keepB M3 (by simp)).keep0 M5
      obtain ⟨i0, hi, hz0, hz1, hz2⟩ := info_parts infoMail
      refine append_of (x := (⟨m, sx, fx, px⟩ : MV)) hr5 Try.underlying54 hi hz0 hz1 hz2 rfl (by decide) c5 rfl (MV.cs_one _) (by omega) (by unfold maxLen; omega) (by omega) fun a' c' w6 hR6 hM6 => ?_
      have M6 := hM6 _ (rowS_ok s.a)
      have s6 := M6.size
      have hrow := rowS_block hr5
      have hrow0 := rowS_block hr
      refine ⟨Keep.of M6 fun b hb' _ hn => ?_, ?_⟩
      · have := hrow0 b hn; simp at hb'; omega
      intro w10 A10 h10
      have s10 := A10.mod.size
      have hln : W0.heap.size + 1 ∉ rowS s.a := fun hn => by have := hrow _ hn; omega
      have hDn : W0.heap.size ∉ rowS s.a := fun hn => by have := hrow _ hn; omega
      have kp10 : ∀ {y : MV}, MailOwn w5 (W0.heap.size + 2) y.m y.s y.f y.p → MailOwn w10 (W0.heap.size + 2) y.m y.s y.f y.p := fun h => by
        refine MailOwn.keepB (MailOwn.keepT h M6 fun k hk cs T hc => ?_) A10.mod (by simp; omega)
        obtain ⟨_, _, cur, hcur⟩ := hrow k hk
        rw [hcur] at hc; cases hc; decide
      refine ⟨?_, ?_, ⟨a', _, c'⟩, h10, hR6.keep A10.mod fun ad ha hk => ?_, fun y hy => ?_, fun i y hy => ?_, ?_⟩
      · exact (A10.mod.block _ (by omega) (by simp; omega)).trans ((M6.block _ (by omega) hln).trans (M5.block _ (by omega) (by simp)))
      · exact (A10.mod.block _ (by omega) (by simp; omega)).trans ((M6.block _ (by omega) hDn).trans ((M5.block _ (by omega) (by simp)).trans ((M3.block _ (by omega) (by simp)).trans (A2.mod.block _ (by omega) (by simp)))))
      · have := hR6.base ad ha; simp at hk; omega
      · rcases List.mem_append.1 hy with hy | hy
        · exact kp10 (kp (ho y hy))
        · simp at hy; subst hy; exact kp10 (kp hx2)
      · by_cases hip : i < pre.length
        · rw [List.getElem?_append_left hip] at hy; exact hx i y hy
        · have hi2 := (List.getElem?_eq_some_iff.1 hy).1
          have hie : i = pre.length := by simp at hi2; omega
          subst hie
          simp at hy; subst hy; exact hx1
      · refine (((((hm.trans A2.mod).trans M3).trans M5).trans M6).trans A10.mod).less fun i hi hlt => ?_
        have : i ∈ rowS s.a → W0.heap.size + 2 ≤ i := fun hh => (hrow i hh).1
        simp at hi ⊢
        rcases hi with hi | hi | hi | hi
        all_goals first | exact hi | omega | (have := this hi; omega)
    case post =>
      intro e a1 W1 hq
      cases e with
      | normal =>
        obtain ⟨q1, q2⟩ := hq
        refine ⟨q1, fun lp' => wpIn_mono (q2 lp') ?_⟩
        rintro e a' W' ⟨rfl, a, n, c, h3, h4, h5⟩
        exact ⟨rfl, by rw [h3]; exact World.putObj_heap_same (lt_of_block' q1), h4, h5⟩
      | _ => exact hq.elim
  case done =>
    rintro W xs hxs ⟨s, hb, hr, ho, hx, hm⟩ hK
    have hc : W.cell? ⟨w.heap.size, 0, none⟩ = some (.slice s.a s.n s.c) := by rw [cell_at hb]; rfl
    gi_wp2
    refine ⟨by simp, .inl ⟨_, _, rfl, run_takeDeferred hK, ?_⟩⟩
    refine ⟨_, results_tmp rfl _ _ _, s, rfl, ?_⟩
    have M := putObj_mod W W0.heap.size (.deferred none)
    refine ⟨⟨xs, (hr.keep M fun ad ha hk => by have := hr.base ad ha; simp at hk; omega).rebase (by omega), fun y hy => ((ho y hy).keepB M (by simp)).rebase (by omega), ?_⟩, (hMw hm).go0 M (by simp; omega)⟩
    apply List.ext_getElem?
    intro i
    rw [asksL, List.getElem?_map, List.getElem?_map]
    by_cases hi : i < rp.toNat
    · obtain ⟨y, hy⟩ : ∃ y, xs[i]? = some y := ⟨_, List.getElem?_eq_getElem (by omega)⟩
      rw [hy, List.getElem?_range hi]
      simp [hx i y hy]
    · rw [List.getElem?_eq_none (by omega), List.getElem?_eq_none (by simp; omega)]; rfl
end

theorem Collect_ok {b1 b0 : Nat} {cl rp n v : Int} {c : PCall} (hrp : mayB rp = true) (w : World) (h1 : w.heap[b1]? = some (.cells #[.pointer (some ⟨b0, 0, none⟩)] 24)) (h2 : Ses w b0 cl rp n v (some c)) :
    Calls Try.prog 36 #[.func (.func 37) #[] #[.pointer (some ⟨b1, 0, none⟩)]] w fun e w' => ∃ u, e = .returned u ∧ ∃ s : Sl, u = .slice s.a s.n s.c ∧ MailsOwn w' w.heap.size s (asksL cl rp c) ∧ Mod [] w w' := by
  refine slices_Collect_api_Mail_go ?_
  refine (callsIn_wide.1 (Append_in hrp w h1 h2)).mono ?_
  rintro e w' ⟨s, rfl, h3, h4⟩
  exact ⟨_, _, _, rfl, s, rfl, h3, h4⟩
def retryL (cl rp : Int) : Option PCall → List PMail
  | none => []
  | some c => asksL cl rp c
theorem Retry_ok {w : World} {b0 : Nat} {cl rp n v : Int} {o : Option PCall} (hrp : mayB rp = true) (h : Ses w b0 cl rp n v o) :
    Calls Try.prog 13 #[.pointer (some ⟨b0, 0, none⟩)] w fun e w' => ∃ u, e = .returned u ∧ ∃ s : Sl, u = .slice s.a s.n s.c ∧ MailsOwn w' w.heap.size s (retryL cl rp o) ∧ Mod [] w w' := by
  obtain ⟨p, h1, h2⟩ := h.obj
  refine session_Session_Retry_go h1 ?_
  intro b1 f1 w2 A2 hb0
  refine ldPtr_of (x := p) (by rw [cell_at hb0]; rfl) ?_
  cases o with
  | none =>
    have h2 : p = none := h2
    subst h2
    exact brB_of (fun _ => ⟨nilS, rfl, ⟨[], Row.nil .., by simp, rfl⟩, A2.mod⟩) fun g => by cases g
  | some c =>
    obtain ⟨b9, rs, ts, rfl, h4, h5, h6⟩ := h2
    refine brB_of (fun g => by cases g) fun _ => ?_
    intro w4 A4 hb04 hb14
    have s2 := A2.mod.size
    have s4 := A4.mod.size
    have N4 := A2.mod.go0 A4.mod (by simp)
    have hS := h.keep0 N4
    refine (Collect_ok hrp w4 hb14 hS).mono ?_
    rintro e w5 ⟨_, rfl, s, rfl, hM, M5⟩
    obtain ⟨ll, hl1, hl2, hl3⟩ := hM
    exact ⟨_, _, _, rfl, _, _, _, _, _, M5.keep0 hb04, _, M5.keep0 hb14, s, rfl, ⟨ll, hl1.rebase (by omega), fun y hy => (hl2 y hy).rebase (by omega), hl3⟩, N4.go0 M5 (by simp)⟩
end Go.Proofs.Ytohgihgddknmmaa
