/- By an AI agent. What is proved here: the evaluator is sound: what it computes, the machine of the model does. -/
import Derived.Test.YtegoogghlakghaaGreatFb
import Derived.KernelRfl
section
set_option linter.unusedVariables false
set_option linter.unusedSimpArgs false
namespace Go.Ev
variable {P : Program} {cx : Cx} {w : World} {f : FM} {G : GM} {h : Hp}
theorem GKept.trans' {a b c : World} (x : GKept G a b) (y : GKept G b c) : GKept G a c := ⟨fun β k hk => (y.1 β k hk).trans (x.1 β k hk), x.2.trans y.2⟩
theorem PostC.refl (i : Inv w f G h) {tm : List V} {a : Act} (ha : ActR w f G tm a) (e : Out) : PostC w f G ⟨tm, h⟩ a.defers e ⟨tm, h⟩ (exitOf e) a w :=
  ⟨rfl, f, G, [], Stp.refl .., i, ha, rfl, trivial⟩
theorem PostC.seq {s s1 s' : St} {ds : List Deferred} {e : Out} {x : Exit} {a1 a2 : Act} {w1 w2 : World} {f1 : FM} {G1 : GM} {ms : List Deferred} (st1 : Stp w f G s.h w1 f1 G1 s1.h) (hd1 : a1.defers = ms ++ ds) (mk1 : Marks w.heap.size w1 f1 G1 ms)
    (h2 : PostC w1 f1 G1 s1 a1.defers e s' x a2 w2) : PostC w f G s ds e s' x a2 w2 := by
  obtain ⟨hx, f2, G2, ms2, st2, i2, ac2, hd2, mk2⟩ := h2
  refine ⟨hx, f2, G2, ms2 ++ ms, st1.trans st2, i2, ac2, by rw [hd2, hd1, List.append_assoc], Marks.append mk2 (mk1.step st2) st1.size fun d hm r e => ?_⟩
  obtain ⟨q, e1, _, hq⟩ := mk1.mem d hm
  rw [e] at e1
  cases e1; exact hq
theorem roundsIn_mono {F : Fence} {m : Nat} {c : Code} {Q Q' : Exit → Act → World → Prop} (hq : ∀ x a w, Q x a w → Q' x a w) : ∀ {n : Nat} {a : Act} {w : World}, Code.roundsIn F m P c Q n a w → Code.roundsIn F m P c Q' n a w
  | 0, _, _, h => h
  | n + 1, a, w, h => wpIn_mono h fun x a w hx => by
    cases x with
    | normal => exact roundsIn_mono hq hx
    | _ => exact hq _ _ _ hx
/-- what is to be shown of a region that draws its order -/
def DrawOk (P : Program) (cx : Cx) : Prop := ∀ (rec : Tk → Rs → Prop) (n : Nat), (∀ t r, rec t r → Sound P cx n t r) → ∀ (ops : Array Oper) (s : St) (k : St → M) (res : Rs), (evDraws cx ops.toList s k).runR rec res →
  ∃ s', KeepL s.h s'.h ∧ (k s').runR rec res ∧ ∀ (r : Option Nat) (m : Nat) (w : World) (f : FM) (G : GM) (a : Act) (Q : Exit → Act → World → Prop) (id : Nat), Inv w f G s.h → ActR w f G s.tm a → (∀ a' w', PostO w f G s a.defers s' a' w' → Q .normal a' w') →
    (Code.region id ops true).wpIn (Fr r) m P Q a w
theorem PostO.post {s s' : St} {ds : List Deferred} {a' : Act} {w' : World} (h : PostO w f G s ds s' a' w') : PostC w f G s ds .normal s' .normal a' w' := by
  obtain ⟨f', G', st, i, ha, hd⟩ := h
  exact ⟨rfl, f', G', [], st, i, ha, by rw [hd]; rfl, trivial⟩
section
variable {rec : Tk → Rs → Prop} {n : Nat}
theorem run_out {e : Out} {s : St} {res : Rs} (h : (M.ret (.out e s)).runR rec res) : res = .out e s := h
theorem run_ret {r res : Rs} (h : (M.ret r).runR rec res) : res = r := h
theorem sound_out {c : Code} {s : St} {r : Rs} (h : Sound P cx n (.code c s) r) : ∃ e s', r = .out e s' ∧ CodeS P n c s e s' := by
  cases r with
  | out e s' => exact ⟨e, s', rfl, h⟩
  | val v h' => exact h.elim
/-- the one call of a range over a function -/
theorem range_ok (hc : CxOk P cx) (H : ∀ t r, rec t r → Sound P cx n t r) {g : Operand} {ps : Array Tmp} {assign body : Code} {s : St} {res : Rs} (he : (stepCode cx (.rangeFunc g ps assign body) s).runR rec res) : Sound P cx (n + 1) (.code (.rangeFunc g ps assign body) s) res := by
  simp only [stepCode] at he
  split at he
  case h_2 => exact (run_no he).elim
  rename_i q first cap hg
  obtain ⟨r1, c1, he⟩ := run_call he
  have S := H _ _ c1
  unfold onVal at he
  split at he
  case h_2 => exact (run_no he).elim
  rename_i v h1
  obtain ⟨⟨fn, hfn, hbody⟩, kl, W⟩ := S
  unfold onRange at he
  split at he
  case h_2 => exact (run_no he).elim
  rename_i lp1 hg1
  have fin : ∀ (e : Out), lp1.st ≠ .busy → (lp1.pend = match e with | .normal => none | .ret => some .ret | .exit id => some (.exit id)) → res = .out e ⟨s.tm, h1.put s.h.next (.loop { lp1 with st := .exhausted })⟩ →
      Sound P cx (n + 1) (.code (.rangeFunc g ps assign body) s) res := by
    rintro e hst hp rfl
    have kput : KeepL h1 (h1.put s.h.next (.loop { lp1 with st := .exhausted })) := KeepL.put fun _ _ => ⟨_, rfl⟩
    refine ⟨((KeepL.add ..).trans kl).trans kput, fun r m w f G a i ha ro => ?_⟩
    show (Code.rangeFunc g ps assign body).wpIn _ _ _ _ _ _
    refine wpIn_rangeFunc fun fid _ => ?_
    have hgv := ev_ok ha hg
    simp only [VR] at hgv
    obtain ⟨fa, ca, hgx, e1, e2, e3, e4⟩ := hgv
    -- the record
    have key : ∀ (w1 : World) (mark : List Deferred) (df : Nat), Stp w f G s.h w1 f G s.h → Inv w1 f G s.h → Marks w.heap.size w1 f G mark → w.heap.size ≤ w1.heap.size →
        (Instr.enterLoop fid a.tmps ps assign body (Fr r).round).run P w = .ok (w1.heap.size, mark) (w1.alloc (.loop { state := .ready, pending := none, fn := fid, tmps := a.tmps, params := ps, assign := assign, body := body, defers := df })) →
        ∃ (l : Nat) (mark : List Deferred) (w₁ : World) (d : Deferred) (w₁' : World) (f' : FuncId) (args : Array Value) (w₂ : World),
          (Instr.enterLoop fid a.tmps ps assign body (Fr r).round).run P w = .ok (l, mark) w₁ ∧ (resolve a.eval (rangeCall g l) 0).run P w₁ = .ok d w₁' ∧ (∀ f'', Target.leads P w₁' d.target d.args = some f'' → (Fr r).fn f'') ∧
          (invoke d.target d.args).run P w₁' = .ok (.enter f' args) w₂ ∧ ((Fr r).depth.isSome = true → 1 ≤ m) ∧
          CallsIn (Fr r) (m - 1) P f' args w₂ (rangePost (Fr r) m P l (PostC w f G s a.defers e ⟨s.tm, h1.put s.h.next (.loop { lp1 with st := .exhausted })⟩) { a with defers := mark ++ a.defers }) := by
      intro w1 mark df st1 i1 mk1 hsz hent
      have hadd := add_ok i1 (.loop { state := .ready, pending := none, fn := fid, tmps := a.tmps, params := ps, assign := assign, body := body, defers := df }) (.loop ⟨.ready, none, s.tm, ps.toList, assign, body⟩) 0 0
        (fun f' hf hG => ⟨_, heap_alloc_new w1 _, rfl, rfl, ha.1, VRs.mono _ hf (GLe.refl _) (GKept.trans' (st1.gkept i) hG) ha.2, rfl, rfl, rfl⟩)
      obtain ⟨W1, hW1⟩ : ∃ W1, W1 = w1.alloc (.loop { state := .ready, pending := none, fn := fid, tmps := a.tmps, params := ps, assign := assign, body := body, defers := df }) := ⟨_, rfl⟩
      rw [← hW1] at hadd hent
      obtain ⟨st2, i2⟩ := hadd
      have st12 := st1.trans st2
      refine ⟨w1.heap.size, mark, W1, { target := .fn (.func q) ca, args := fa ++ #[.func (.yield w1.heap.size) #[] #[]] }, W1, q, fa ++ #[.func (.yield w1.heap.size) #[] #[]] ++ ca, W1, hent, ?_, fun _ _ => trivial, ?_, fun h => by simp [Fence.wide] at h, ?_⟩
      · have hcst : (#[Operand.const (.func (.yield w1.heap.size) #[] #[])]).map a.eval = #[.func (.yield w1.heap.size) #[] #[]] := by
          apply Array.ext'
          rw [Array.toList_map]
          rfl
        simp only [resolve, rangeCall, hgx, Deferred.ofValue, hcst, Sem.run_pure]
      · simp only [invoke]
        exact callFunc_enter hc hfn hbody _ _
      · have hfb : fset f s.h.next (w1.heap.size, 0, 0) s.h.next = some (w1.heap.size, 0, 0) := by simp [fset]
        have hargs : VRs W1 (fset f s.h.next (w1.heap.size, 0, 0)) G (first ++ [.yld s.h.next] ++ cap) (fun i => (fa ++ #[.func (.yield w1.heap.size) #[] #[]] ++ ca)[i]?) := by
          refine VRs_append (VRs_append (VRs.step i st12 e3) ?_ e1) (VRs.step i st12 e4) (by simp; omega)
          simp only [VRs, VR]
          exact ⟨⟨_, by simp, _, _, _, hfb, rfl⟩, trivial⟩
        refine (W (m - 1) _ _ G _ i2 (by simp; omega) hargs).mono fun en w3 ⟨x, hen, f3, G3, st3, i3, v3⟩ => ?_
        subst hen
        have hfb3 := st3.fle _ _ hfb
        obtain ⟨lc, hw3, q1, q2, q3, q4, q5, q6, q7⟩ := i3.rel _ _ _ _ _ hfb3 hg1
        have pu := loop_put i3 hfb3 hg1 hw3 { lp1 with st := .exhausted } { lc with state := .exhausted } rfl q2 q3 q4 q5 q6 q7
        have hend : (Instr.endLoop w1.heap.size).run P w3 = .ok lc.pending (setBlk w3 w1.heap.size (.loop { lc with state := .exhausted })) := by
          have hb : (lc.state == LoopState.busy) = false := by rw [q1]; cases hs : lp1.st <;> first | rfl | exact absurd hs hst
          simp only [Instr.endLoop, Sem.run_bind, getLoop_ok hw3, Result.andThen_ok, hb, Bool.false_eq_true, if_false, Sem.run_pure, setLoop_ok _ hw3]
        refine ⟨_, _, hend, ?_⟩
        have stall := (st12.trans st3).trans pu.1
        have post : PostC w f G s a.defers e ⟨s.tm, h1.put s.h.next (.loop { lp1 with st := .exhausted })⟩ (exitOf e) { a with defers := mark ++ a.defers } (setBlk w3 w1.heap.size (.loop { lc with state := .exhausted })) :=
          ⟨rfl, f3, G3, mark, stall, pu.2, ⟨ha.1, VRs.step i stall ha.2⟩, rfl, mk1.step (st2.trans (st3.trans pu.1))⟩
        have hp2 := q2.trans hp
        split
        · rename_i heq
          rw [hp2] at heq
          cases e with
          | normal => exact post
          | ret => cases heq
          | exit id => cases heq
        · rename_i c0 heq
          rw [hp2] at heq
          cases e with
          | normal => cases heq
          | ret => cases heq; exact wpIn_ret post
          | exit id => cases heq; exact wpIn_exit post
    cases r with
    | none =>
      have ao := alloc_ok i (.deferred (some []))
      refine key (w.alloc (.deferred (some []))) [{ target := .collected w.heap.size, args := #[] }] w.heap.size ao.1 ao.2 ⟨⟨w.heap.size, rfl, Nat.le_refl _, heap_alloc_new w _, fun b s' z e => ?_, fun β hg => ?_, fun _ hm => by simp at hm⟩, trivial⟩ (by simp) ?_
      · have := (i.rng _ _ _ _ e).1; omega
      · have := i.gin _ _ hg; omega
      · simp [Instr.enterLoop]
    | some lr =>
      obtain ⟨b, s', z, lp, hb, hbn, hgb⟩ := ro lr rfl
      obtain ⟨lc, hw, _⟩ := i.rel _ _ _ _ _ hb hgb
      refine key w [] lc.defers (Stp.refl ..) i trivial (Nat.le_refl _) ?_
      simp [Instr.enterLoop, getLoop_ok hw]
  split at he
  · exact (run_no he).elim
  · rename_i hnb
    split at he
    · rename_i hp
      exact fin .normal hnb hp (run_ret he)
    · rename_i hp
      exact fin .ret hnb hp (run_ret he)
    · rename_i id hp
      exact fin (.exit id) hnb hp (run_ret he)
    · exact (run_no he).elim
end
end Go.Ev
end

section
set_option linter.unusedVariables false
set_option linter.unusedSimpArgs false
namespace Go.Ev
variable {P : Program} {cx : Cx} {w : World} {f : FM} {G : GM} {h : Hp}
section
variable {rec : Tk → Rs → Prop} {n : Nat}
/-- a step that leaves all as it is -/
theorem code_same {c : Code} {s : St} {e : Out} (hc : ∀ (F : Fence) (m : Nat) (Q : Exit → Act → World → Prop) (a : Act) (w : World), Q (exitOf e) a w → c.wpIn F m P Q a w) (hl : ∀ b, c ≠ .loop b) : CodeS P n c s e s :=
  ⟨KeepL.refl _, fun r m w f G a i ha _ => by
    unfold Runs
    split
    · exact absurd rfl (hl _)
    · exact hc _ _ _ _ _ (PostC.refl i ha e)⟩
theorem Runs.of {c : Code} {F : Fence} {m : Nat} {Q : Exit → Act → World → Prop} {a : Act} (hl : ∀ b, c ≠ .loop b) (hw : c.wpIn F m P Q a w) : Runs n c F m P Q a w := by
  unfold Runs
  split
  · exact absurd rfl (hl _)
  · exact hw
theorem code_ok (hc : CxOk P cx) (hd : DrawOk P cx) (H : ∀ t r, rec t r → Sound P cx n t r) {c : Code} {s : St} {res : Rs} (he : (stepCode cx c s).runR rec res) : Sound P cx (n + 1) (.code c s) res := by
  cases c with
  | skip =>
    rw [run_out he]
    exact code_same (fun F m Q a w h => wpIn_skip h) (fun b => by simp)
  | ret =>
    rw [run_out he]
    exact code_same (fun F m Q a w h => wpIn_ret h) (fun b => by simp)
  | label l =>
    rw [run_out he]
    exact code_same (fun F m Q a w h => wpIn_label h) (fun b => by simp)
  | exit id =>
    rw [run_out he]
    exact code_same (fun F m Q a w h => wpIn_exit h) (fun b => by simp)
  | scope c =>
    obtain ⟨r1, c1, he⟩ := run_call he
    obtain ⟨e, s', rfl, kl, W⟩ := sound_out (H _ _ c1)
    rw [run_ret he]
    refine ⟨kl, fun r m w f G a i ha ro => Runs.of (fun b => by simp) (wpIn_scope (wpIn_mono (W r m w f G a i ha ro).wp fun x a' w' hp => ?_))⟩
    obtain ⟨hx, hr⟩ := hp
    subst hx
    cases e <;> exact ⟨rfl, hr⟩
  | seq c1 c2 =>
    obtain ⟨r1, q1, he⟩ := run_call he
    obtain ⟨e, s1, rfl, kl, W⟩ := sound_out (H _ _ q1)
    cases e with
    | normal =>
      obtain ⟨r2, q2, he⟩ := run_call he
      obtain ⟨e, s', rfl, kl2, W2⟩ := sound_out (H _ _ q2)
      rw [run_ret he]
      refine ⟨kl.trans kl2, fun r m w f G a i ha ro => Runs.of (fun b => by simp) (wpIn_seq (wpIn_mono (W r m w f G a i ha ro).wp fun x a1 w1 hp => ?_))⟩
      obtain ⟨hx, f1, G1, ms, st1, i1, ac1, hd1, mk1⟩ := hp
      subst hx
      exact wpIn_mono (W2 r m w1 f1 G1 a1 i1 ac1 (ro.step st1.fle kl)).wp fun x a2 w2 hp2 => PostC.seq st1 hd1 mk1 hp2
    | ret =>
      rw [run_ret he]
      refine ⟨kl, fun r m w f G a i ha ro => Runs.of (fun b => by simp) (wpIn_seq (wpIn_mono (W r m w f G a i ha ro).wp fun x a1 w1 hp => ?_))⟩
      obtain ⟨hx, hp⟩ := hp
      subst hx
      exact ⟨rfl, hp⟩
    | exit id =>
      rw [run_ret he]
      refine ⟨kl, fun r m w f G a i ha ro => Runs.of (fun b => by simp) (wpIn_seq (wpIn_mono (W r m w f G a i ha ro).wp fun x a1 w1 hp => ?_))⟩
      obtain ⟨hx, hp⟩ := hp
      subst hx
      exact ⟨rfl, hp⟩
  | cond x c1 c2 =>
    simp only [stepCode] at he
    split at he
    case h_2 => exact (run_no he).elim
    rename_i t ht
    obtain ⟨r1, q1, he⟩ := run_call he
    obtain ⟨e, s', rfl, kl, W⟩ := sound_out (H _ _ q1)
    rw [run_ret he]
    refine ⟨kl, fun r m w f G a i ha ro => Runs.of (fun b => by simp) ?_⟩
    have hx := ev_ok ha ht
    simp only [VR] at hx
    exact wpIn_cond hx (W r m w f G a i ha ro).wp
  | block id c =>
    obtain ⟨r1, q1, he⟩ := run_call he
    obtain ⟨e, s', rfl, kl, W⟩ := sound_out (H _ _ q1)
    have key : ∀ e', (∀ (w : World) (f : FM) (G : GM) (ds : List Deferred) (x : Exit) (a1 : Act) (w1 : World), PostC w f G s ds e s' x a1 w1 → Exit.inBlock id (PostC w f G s ds e' s') x a1 w1) → Sound P cx (n + 1) (.code (.block id c) s) (.out e' s') := fun e' hk =>
      ⟨kl, fun r m w f G a i ha ro => Runs.of (fun b => by simp) (wpIn_block (wpIn_mono (W r m w f G a i ha ro).wp fun x a1 w1 hp => hk w f G _ x a1 w1 hp))⟩
    cases e with
    | normal =>
      rw [run_ret he]
      exact key .normal fun w f G ds x a1 w1 hp => by obtain ⟨hx, hp⟩ := hp; subst hx; exact ⟨rfl, hp⟩
    | ret =>
      rw [run_ret he]
      exact key .ret fun w f G ds x a1 w1 hp => by obtain ⟨hx, hp⟩ := hp; subst hx; exact ⟨rfl, hp⟩
    | exit j =>
      rw [run_ret he]
      refine key _ fun w f G ds x a1 w1 hp => ?_
      obtain ⟨hx, hp⟩ := hp
      subst hx
      simp only [exitOf, Exit.inBlock]
      by_cases hj : j = id
      · simp only [hj, if_true]; exact ⟨rfl, hp⟩
      · simp only [hj, if_false]; exact ⟨rfl, hp⟩
  | loop c =>
    obtain ⟨r1, q1, he⟩ := run_call he
    obtain ⟨e, s1, rfl, kl, W⟩ := sound_out (H _ _ q1)
    cases e with
    | normal =>
      obtain ⟨r2, q2, he⟩ := run_call he
      obtain ⟨e, s', rfl, kl2, W2⟩ := sound_out (H _ _ q2)
      rw [run_ret he]
      refine ⟨kl.trans kl2, fun r m w f G a i ha ro => ?_⟩
      show Code.roundsIn _ _ _ _ _ (n + 1) _ _
      rw [roundsIn_succ]
      refine wpIn_mono (W r m w f G a i ha ro).wp fun x a1 w1 hp => ?_
      obtain ⟨hx, f1, G1, ms, st1, i1, ac1, hd1, mk1⟩ := hp
      subst hx
      have X : Code.roundsIn (Fr r) m P c _ n a1 w1 := W2 r m w1 f1 G1 a1 i1 ac1 (ro.step st1.fle kl)
      exact roundsIn_mono (fun x a2 w2 hp2 => PostC.seq st1 hd1 mk1 hp2) X
    | ret =>
      rw [run_ret he]
      refine ⟨kl, fun r m w f G a i ha ro => ?_⟩
      show Code.roundsIn _ _ _ _ _ (n + 1) _ _
      rw [roundsIn_succ]
      refine wpIn_mono (W r m w f G a i ha ro).wp fun x a1 w1 hp => ?_
      obtain ⟨hx, hp⟩ := hp
      subst hx
      exact ⟨rfl, hp⟩
    | exit id =>
      rw [run_ret he]
      refine ⟨kl, fun r m w f G a i ha ro => ?_⟩
      show Code.roundsIn _ _ _ _ _ (n + 1) _ _
      rw [roundsIn_succ]
      refine wpIn_mono (W r m w f G a i ha ro).wp fun x a1 w1 hp => ?_
      obtain ⟨hx, hp⟩ := hp
      subst hx
      exact ⟨rfl, hp⟩
  | region id ops draw =>
    cases draw with
    | false =>
      obtain ⟨s', kl, he, W⟩ := evOps_ok hc H _ _ he
      rw [run_out he]
      exact ⟨kl, fun r m w f G a i ha ro => Runs.of (fun b => by simp) (wpIn_region_list (W r m w f G a _ i ha fun a' w' hp => hp.post))⟩
    | true =>
      obtain ⟨s', kl, he, W⟩ := hd rec n H ops s _ _ he
      rw [run_out he]
      exact ⟨kl, fun r m w f G a i ha ro => Runs.of (fun b => by simp) (W r m w f G a _ id i ha fun a' w' hp => hp.post)⟩
  | rangeFunc g ps assign body => exact range_ok hc H he
  | _ => exact (run_no he).elim
end
theorem runR_of : ∀ (m : M) {rec : Tk → Option Rs} {R : Tk → Rs → Prop} (_ : ∀ t r, rec t = some r → R t r) {r : Rs}, m.run rec = some r → m.runR R r
  | .ret r', _, _, _, r, h => by simp only [M.run, Option.some.injEq] at h; exact h.symm
  | .no, _, _, _, r, h => by simp [M.run] at h
  | .call t k, rec, R, H, r, h => by
    simp only [M.run] at h
    cases e : rec t with
    | none => rw [e] at h; cases h
    | some r1 => rw [e] at h; exact ⟨r1, H _ _ e, runR_of (k r1) H h⟩
theorem step_ok (hc : CxOk P cx) (hd : DrawOk P cx) {rec : Tk → Rs → Prop} {n : Nat} (H : ∀ t r, rec t r → Sound P cx n t r) (t : Tk) (r : Rs) (h : (step cx t).runR rec r) : Sound P cx (n + 1) t r := by
  cases t with
  | code c s => exact code_ok hc hd H h
  | call g args hp => exact call_ok hc H h
  | pcall g args => exact pcall_ok hc H h
theorem sound (hc : CxOk P cx) (hd : DrawOk P cx) : ∀ (n : Nat) (t : Tk) (r : Rs), evF cx n t = some r → Sound P cx n t r
  | 0, t, r, h => by cases h
  | n + 1, t, r, h => step_ok hc hd (sound hc hd n) t r (runR_of _ (fun t r e => e) h)
end Go.Ev
end

section
set_option linter.unusedVariables false
set_option linter.unusedSimpArgs false
namespace Go.Ev
variable {P : Program} {cx : Cx} {w : World} {f : FM} {G : GM} {h : Hp}
/-! ### An operation looks at its operands alone -/
def Same (tm tm' : List V) (xs : Array Operand) : Prop := ∀ x ∈ xs, ev tm x = ev tm' x
theorem evs_congr {tm tm' : List V} : ∀ {l : List Operand}, (∀ x ∈ l, ev tm x = ev tm' x) → evs tm l = evs tm' l
  | [], _ => rfl
  | x :: l, h => by
    simp only [evs]
    rw [h x (by simp), evs_congr (l := l) fun y hy => h y (by simp [hy])]
theorem parts_congr {tm tm' : List V} : ∀ {l : List (Nat × Operand)}, (∀ x ∈ l, ev tm x.2 = ev tm' x.2) → parts tm l = parts tm' l
  | [], _ => rfl
  | (i, x) :: l, h => by
    simp only [parts]
    rw [h (i, x) (by simp), parts_congr (l := l) fun y hy => h y (by simp [hy])]
theorem optEv_congr {tm tm' : List V} {o : Option Operand} (h : ∀ x ∈ o.toArray, ev tm x = ev tm' x) : optEv tm o = optEv tm' o := by
  cases o with
  | none => rfl
  | some x => simp only [optEv]; rw [h x (by simp)]
theorem opP_congr {tm tm' : List V} {h : Hp} {op : Op} (hs : Same tm tm' op.operands) : opP cx ⟨tm, h⟩ op = opP cx ⟨tm', h⟩ op := by
  unfold Same at hs
  cases op with
  | move x => simp only [opP, opMove, hs x (by simp [Op.operands])]
  | assign x => simp only [opP, opMove, hs x (by simp [Op.operands])]
  | pick c a b => simp only [opP, opPick, hs c (by simp [Op.operands]), hs a (by simp [Op.operands]), hs b (by simp [Op.operands])]
  | alloc e => rfl
  | box e x => simp only [opP, opBox, hs x (by simp [Op.operands])]
  | build t ps => simp only [opP, opBuild]; rw [parts_congr fun y hy => hs y.2 (by simp only [Op.operands, List.mem_toArray, List.mem_map]; exact ⟨y, hy, rfl⟩)]
  | buildSlice t n ps => simp only [opP, opBuildSlice]; rw [parts_congr fun y hy => hs y.2 (by simp only [Op.operands, List.mem_toArray, List.mem_map]; exact ⟨y, hy, rfl⟩)]
  | load t a => simp only [opP, opLoad, hs a (by simp [Op.operands])]
  | store t a x => simp only [opP, opStore, hs a (by simp [Op.operands]), hs x (by simp [Op.operands])]
  | nilCheck x => simp only [opP, opNilCheck, hs x (by simp [Op.operands])]
  | binOp o t x y s => simp only [opP, opBin, hs x (by simp [Op.operands]), hs y (by simp [Op.operands])]
  | unOp o t x => simp only [opP, opUn, hs x (by simp [Op.operands])]
  | convert a b x => simp only [opP, opConv, hs x (by simp [Op.operands])]
  | makeInterface t x => simp only [opP, opMkIface, hs x (by simp [Op.operands])]
  | makeFunc g a b => simp only [opP, opMkFunc]; rw [evs_congr fun y hy => hs y (by simp only [Op.operands, Array.mem_append]; exact .inl (by simpa using hy)), evs_congr fun y hy => hs y (by simp only [Op.operands, Array.mem_append]; exact .inr (by simpa using hy))]
  | makeMap t r => cases r <;> rfl
  | makeSlice t l c => simp only [opP, opMkSlice, hs l (by simp [Op.operands]), hs c (by simp [Op.operands])]
  | slice t x lo hi mx =>
    simp only [opP, opSlice, hs x (by simp [Op.operands])]
    rw [optEv_congr (o := lo) fun y hy => hs y (by simp only [Op.operands, Array.mem_append]; exact .inl (.inl (.inr hy))), optEv_congr (o := hi) fun y hy => hs y (by simp only [Op.operands, Array.mem_append]; exact .inl (.inr hy)),
      optEv_congr (o := mx) fun y hy => hs y (by simp only [Op.operands, Array.mem_append]; exact .inr hy)]
  | fieldAddr t x n => simp only [opP, opFieldAddr, hs x (by simp [Op.operands])]
  | field t x n => simp only [opP, opField, hs x (by simp [Op.operands])]
  | indexAddr t x n => simp only [opP, opIndexAddr, hs x (by simp [Op.operands]), hs n (by simp [Op.operands])]
  | index t x n => simp only [opP, opIndex, hs x (by simp [Op.operands]), hs n (by simp [Op.operands])]
  | lookup t x n ok => simp only [opP, opLookup, hs x (by simp [Op.operands]), hs n (by simp [Op.operands])]
  | mapUpdate t m k x => simp only [opP, opMapUpdate, hs m (by simp [Op.operands]), hs k (by simp [Op.operands]), hs x (by simp [Op.operands])]
  | typeAssert x a t ok => simp only [opP, opTypeAssert, hs x (by simp [Op.operands])]
  | extract t n => simp only [opP, opExtract, hs t (by simp [Op.operands])]
  | _ => rfl
theorem evOp_congr {tm tm' : List V} {h : Hp} {o : Oper} {k : V → Hp → M} (hs : Same tm tm' o.op.operands) : evOp cx ⟨tm, h⟩ o k = evOp cx ⟨tm', h⟩ o k := by
  unfold evOp
  split
  · rename_i c hop
    rw [hop] at hs
    unfold Same at hs
    simp only [Op.operands, Call.operands, Array.mem_append] at hs
    have e : evs tm c.args.toList = evs tm' c.args.toList := evs_congr fun y hy => hs y (.inr (by simpa using hy))
    simp only [evCall, e]
    cases evs tm' c.args.toList with
    | none => rfl
    | some args =>
      cases hcal : c.callee with
      | builtin b => rfl
      | value g => simp only [hs g (.inl (by simp [hcal]))]
      | invoke r m => simp only [hs r (.inl (by simp [hcal]))]
  · rw [opP_congr hs]
/-- only what an operation looks at -/
def maskT (rs : List Nat) (tm : List V) : List V := tm.mapIdx fun i v => if i ∈ rs then v else .und
theorem maskT_same {o : Oper} {ops : List Oper} {tm : List V} : Same tm (maskT (readsOf ops o) tm) o.op.operands := fun x hx => by
  cases x with
  | tmp t =>
    have : t ∈ readsOf ops o := by
      simp only [readsOf, List.mem_append, List.mem_filterMap]
      exact .inl ⟨.tmp t, by simpa using hx, rfl⟩
    simp only [ev, maskT, List.getElem?_mapIdx]
    cases tm[t]? <;> simp [this]
  | _ => rfl
def maskA (rs : List Nat) (a : Act) : Act := { a with tmps := a.tmps.mapIdx fun i v => if i ∈ rs then v else undef }
/-- what an operation looks at stands for what the evaluator has there -/
def ReadsR (w : World) (f : FM) (G : GM) (rs : List Nat) (tm : List V) (a : Act) : Prop := a.tmps.size = tm.length ∧ ∀ t ∈ rs, ∀ v, tm[t]? = some v → ∃ u, a.tmps[t]? = some u ∧ VR w f G v u
theorem ReadsR.mask {rs : List Nat} {tm : List V} {a : Act} (h : ReadsR w f G rs tm a) : ActR w f G (maskT rs tm) (maskA rs a) := by
  refine ⟨by simp [maskT, maskA, h.1], VRs_iff.2 fun t v ht => ?_⟩
  simp only [maskT, List.getElem?_mapIdx, Option.map_eq_some_iff] at ht
  obtain ⟨v0, h0, rfl⟩ := ht
  simp only [maskA, Array.getElem?_mapIdx]
  by_cases hm : t ∈ rs
  · obtain ⟨u, hu, hv⟩ := h.2 t hm v0 h0
    exact ⟨u, by rw [hu]; simp [hm], by simpa [hm] using hv⟩
  · have hlt : t < a.tmps.size := by rw [h.1]; exact (List.getElem?_eq_some_iff.1 h0).1
    exact ⟨undef, by simp [hlt, hm], by simpa [hm] using VR.und⟩
theorem maskA_eval {o : Oper} {ops : List Oper} {a : Act} : ∀ x ∈ o.op.operands, (maskA (readsOf ops o) a).eval x = a.eval x := fun x hx => by
  cases x with
  | tmp t =>
    have : t ∈ readsOf ops o := by
      simp only [readsOf, List.mem_append, List.mem_filterMap]
      exact .inl ⟨.tmp t, by simpa using hx, rfl⟩
    simp only [Act.eval, maskA, Array.getD_eq_getD_getElem?, Array.getElem?_mapIdx]
    cases a.tmps[t]? <;> simp [this]
  | _ => rfl
def isCall : Op → Bool
  | .call _ => true
  | _ => false
def noSelect : Op → Bool
  | .select .. | .defer _ => false
  | _ => true
/-- What is known of an operation that the evaluator has taken. -/
structure OpI (P : Program) (cx : Cx) (ops : List Oper) (o : Oper) (tm : List V) (h : Hp) (v : V) (h' : Hp) : Prop where
  keep : KeepL h h'
  up : ∀ (r : Option Nat) (m : Nat) (w : World) (f : FM) (G : GM) (a : Act), Inv w f G h → ReadsR w f G (readsOf ops o) tm a → Upon (Fr r) m P (Res w f G h v h') ((o.semAt r a.eval).run P w)
  eq : isCall o.op = false → opP cx ⟨tm, h⟩ o.op = some (v, h')
  bi : ∀ c b, o.op = .call c → c.callee = .builtin b → ∃ args, evs tm c.args.toList = some args ∧ builtinV cx h b c.argTypes.toList args = some (v, h')
theorem semAt_congr {ρ ρ' : Operand → Value} {o : Oper} (r : Option Nat) (hn : noSelect o.op = true) (h : ∀ x ∈ o.op.operands, ρ x = ρ' x) : o.semAt r ρ = o.semAt r ρ' := by
  have hd : ∀ c, o.op ≠ .defer c := fun c e => by rw [e] at hn; cases hn
  rw [Oper.semAt_eq _ _ _ hd, Oper.semAt_eq _ _ _ hd]
  exact execOp_congr o (fun cs b e => by rw [e] at hn; cases hn) h
theorem opI_ok {rec : Tk → Rs → Prop} {n : Nat} (hc : CxOk P cx) (H : ∀ t r, rec t r → Sound P cx n t r) {ops : List Oper} {tm : List V} {h : Hp} {o : Oper} {k : V → Hp → M} {res : Rs} (he : (evOp cx ⟨tm, h⟩ o k).runR rec res) :
    ∃ v h', OpI P cx ops o tm h v h' ∧ (k v h').runR rec res := by
  have hsame : Same tm (maskT (readsOf ops o) tm) o.op.operands := maskT_same
  cases hcl : isCall o.op with
  | true =>
    have hbi : (∃ c b, o.op = .call c ∧ c.callee = .builtin b) ∨ ¬ (∃ c b, o.op = .call c ∧ c.callee = .builtin b) := Classical.em _
    rcases hbi with ⟨c, b, hop, hcal⟩ | hbi
    · have hn : noSelect o.op = true := by rw [hop]; rfl
      have he' := he
      simp only [evOp, hop, evCall] at he
      split at he
      · exact (run_no he).elim
      rename_i args hargs
      rw [hcal] at he
      simp only at he
      split at he
      case h_2 => exact (run_no he).elim
      rename_i v h' hb
      refine ⟨v, h', ⟨builtin_keep hb, fun r m w f G a i ha => ?_, fun e => (by rw [hcl] at e; cases e), fun c' b' hop' hcal' => ?_⟩, he⟩
      · have hargs2 : evs (maskT (readsOf ops o) tm) c.args.toList = some args := by
          rw [← hargs]
          exact (evs_congr fun y hy => hsame y (by rw [hop]; simp only [Op.operands, Call.operands, Array.mem_append]; exact .inr (by simpa using hy))).symm
        have e1 := evs_arr ha.mask hargs2
        have := builtin_ok (cx := cx) hc.ty i (b := b) (ts := c.argTypes.toList) (ty := o.type) (cs := c.args.map fun | .const _ => true | _ => false) (args := args) (args' := (c.args.map (maskA (readsOf ops o) a).eval).toList) (v := v) (h' := h') (by simpa using e1.1) (by simpa using e1.2) hb
        have h2 := OpR.upon (P := P) (r := r) (n := m) this
        rw [← semAt_congr (ρ := (maskA (readsOf ops o) a).eval) r hn maskA_eval, Oper.semAt_eq _ _ _ (fun c' e => by rw [hop] at e; cases e)]
        simp only [execOp, hop, resolve, hcal, Sem.run_bind, Sem.run_pure, Result.andThen_ok, invoke]
        exact h2
      · rw [hop] at hop'
        cases hop'
        rw [hcal] at hcal'
        cases hcal'
        exact ⟨args, hargs, hb⟩
    rw [evOp_congr hsame] at he
    obtain ⟨v, h', k1, he1, U⟩ := evOp_ok hc H he
    have hn : noSelect o.op = true := by cases hop : o.op <;> rw [hop] at hcl <;> first | rfl | cases hcl
    refine ⟨v, h', ⟨k1, fun r m w f G a i ha => ?_, fun e => (by rw [hcl] at e; cases e), fun c b h1 h2 => absurd ⟨c, b, h1, h2⟩ hbi⟩, he1⟩
    have := U r m w f G (maskA (readsOf ops o) a) i ha.mask
    rwa [semAt_congr r hn maskA_eval] at this
  | false =>
    unfold evOp at he
    split at he
    · rename_i c hop
      rw [hop] at hcl
      exact absurd hcl (by simp [isCall])
    · split at he
      case h_2 => exact (run_no he).elim
      rename_i v h' hv
      have hn : noSelect o.op = true := by cases hop : o.op <;> first | rfl | (rw [hop] at hv; cases hv)
      refine ⟨v, h', ⟨opP_keep hv, fun r m w f G a i ha => ?_, fun _ => hv, fun c b h1 _ => (by rw [h1] at hcl; exact absurd hcl (by simp [isCall]))⟩, he⟩
      rw [opP_congr hsame] at hv
      have := OpR.upon (P := P) (r := r) (n := m) (opP_ok hc.ty (a := maskA (readsOf ops o) a) i ha.mask hv)
      rw [← Oper.semAt_none, semAt_congr none hn maskA_eval] at this
      have e2 : o.semAt r a.eval = o.semAt none a.eval := by
        have hd : ∀ c, o.op ≠ .defer c := fun c e => by rw [e] at hn; cases hn
        rw [Oper.semAt_eq _ _ _ hd, Oper.semAt_eq _ _ _ hd]
      rw [e2]; exact this
end Go.Ev
end

section
set_option linter.unusedVariables false
set_option linter.unusedSimpArgs false
namespace Go.Ev
variable {P : Program} {cx : Cx} {w : World} {f : FM} {G : GM} {h : Hp}
/-! ### What the checks of a region say -/
inductive Dep (ops : Array Oper) : Nat → Nat → Prop
  | edge {i : Nat} {o : Oper} {e : Edge} : ops[i]? = some o → e ∈ o.after.toList → Region.binds .any e = true → Dep ops i e.on
  | trans {i j : Nat} {o : Oper} {e : Edge} : ops[i]? = some o → e ∈ o.after.toList → Region.binds .any e = true → Dep ops e.on j → Dep ops i j
def Closed (ops : Array Oper) (S : Nat → Prop) : Prop := ∀ i o e, S i → ops[i]? = some o → e ∈ o.after.toList → Region.binds .any e = true → S e.on
theorem Dep.closed {ops : Array Oper} {S : Nat → Prop} (hS : Closed ops S) {i j : Nat} (hd : Dep ops i j) (hi : ∀ o e, ops[i]? = some o → e ∈ o.after.toList → Region.binds .any e = true → S e.on) : S j := by
  induction hd with
  | edge h1 h2 h3 => exact hi _ _ h1 h2 h3
  | trans h1 h2 h3 h4 ih => exact ih fun o e g1 g2 g3 => hS _ _ _ (hi _ _ h1 h2 h3) g1 g2 g3
theorem testBit_pow (a b : Nat) : (2 ^ a).testBit b = decide (a = b) := Nat.testBit_two_pow
theorem maskOf_ok {pm : Tr Nat} : ∀ {es : List Edge} {j : Nat}, (maskOf pm es).testBit j = true → ∃ e ∈ es, Region.binds .any e = true ∧ (e.on = j ∨ ∃ a, pm.get e.on = some a ∧ a.testBit j = true)
  | [], j, h => by simp [maskOf] at h
  | e :: es, j, h => by
    simp only [maskOf] at h
    split at h
    · rename_i hb
      rw [Nat.testBit_or, Nat.testBit_or, Bool.or_eq_true, Bool.or_eq_true] at h
      rcases h with (h | h) | h
      · rw [testBit_pow] at h
        exact ⟨e, by simp, hb, .inl (by simpa using h)⟩
      · cases hg : pm.get e.on with
        | none => rw [hg] at h; simp at h
        | some a => rw [hg] at h; exact ⟨e, by simp, hb, .inr ⟨a, hg, by simpa using h⟩⟩
      · obtain ⟨e', h1, h2⟩ := maskOf_ok h
        exact ⟨e', by simp [h1], h2⟩
    · obtain ⟨e', h1, h2⟩ := maskOf_ok h
      exact ⟨e', by simp [h1], h2⟩
theorem masks_ok {ops : Array Oper} : ∀ {l : List Oper} {pm : Tr Nat} {i : Nat}, (∀ q, l[q]? = ops[i + q]?) → (∀ q a, pm.get q = some a → ∀ j, a.testBit j = true → Dep ops q j) →
    ∀ q a, (masks pm i l)[q]? = some a → ∀ j, a.testBit j = true → Dep ops (i + q) j
  | [], pm, i, _, _, q, a, h, _, _ => by simp [masks] at h
  | o :: r, pm, i, hl, hp, q, a, h, j, hj => by
    have h0 : ops[i]? = some o := by simpa using (hl 0).symm
    have hd : ∀ j, (maskOf pm o.after.toList).testBit j = true → Dep ops i j := fun j hj => by
      obtain ⟨e, h1, h2, h3⟩ := maskOf_ok hj
      rcases h3 with rfl | ⟨a, h3, h4⟩
      · exact .edge h0 h1 h2
      · exact .trans h0 h1 h2 (hp _ _ h3 _ h4)
    simp only [masks] at h
    cases q with
    | zero =>
      simp only [List.getElem?_cons_zero, Option.some.injEq] at h
      subst h
      exact hd j hj
    | succ q =>
      have := masks_ok (ops := ops) (l := r) (pm := pm.set i (maskOf pm o.after.toList)) (i := i + 1) (fun q => by have := hl (q + 1); rw [Nat.add_assoc, Nat.add_comm 1 q]; simpa using this)
        (fun q a hq j hj => by
          rw [Tr.get_set] at hq
          split at hq
          · rename_i e; cases hq; subst e; exact hd j hj
          · exact hp q a hq j hj) q a (by simpa using h) j hj
      rw [Nat.add_assoc, Nat.add_comm 1 q] at this
      exact this
theorem masks_length : ∀ {l : List Oper} {pm : Tr Nat} {i : Nat}, (masks pm i l).length = l.length
  | [], _, _ => rfl
  | o :: r, pm, i => by simp [masks, masks_length]
theorem setAll_get {b : Nat} : ∀ {xs : List Nat} {t : Tr Nat} {y : Nat} {j : Nat}, ((∃ k, t.get y = some k ∧ k.testBit j = true) ∨ (y ∈ xs ∧ b.testBit j = true)) → ∃ k, (setAll t b xs).get y = some k ∧ k.testBit j = true
  | [], t, y, j, h => by
    rcases h with h | ⟨h, _⟩
    · exact h
    · cases h
  | x :: xs, t, y, j, h => by
    simp only [setAll]
    refine setAll_get ?_
    rcases h with ⟨k, h1, h2⟩ | ⟨h1, h2⟩
    · left
      rw [Tr.get_set]
      split
      · rename_i e
        subst e
        exact ⟨_, rfl, by rw [h1, Nat.testBit_or]; simp [h2]⟩
      · exact ⟨k, h1, h2⟩
    · rcases List.mem_cons.1 h1 with rfl | h1
      · left
        rw [Tr.get_set, if_pos rfl]
        exact ⟨_, rfl, by rw [Nat.testBit_or]; simp [h2]⟩
      · exact .inr ⟨h1, h2⟩
structure DrawS (ops : Array Oper) (ms : List Nat) (i : Nat) : Prop where
  edge : ∀ o e, ops[i]? = some o → e ∈ o.after.toList → Region.binds .any e = true → e.on < i
  reads : ∀ o oj j t a, ops[i]? = some o → ops[j]? = some oj → j < i → oj.dst = some t → t ∈ readsOf ops.toList o → ms[i]? = some a → a.testBit j = true
  anti : ∀ o oj j t a, ops[i]? = some o → ops[j]? = some oj → j < i → o.dst = some t → t ∈ readsOf ops.toList oj → ms[i]? = some a → a.testBit j = true
  one : ∀ o oj j t, ops[i]? = some o → ops[j]? = some oj → j < i → o.dst = some t → oj.dst ≠ some t
theorem and_beq {k a j : Nat} (h : (k &&& a).beq k = true) (hk : k.testBit j = true) : a.testBit j = true := by
  have e := Nat.eq_of_beq_eq_true h
  rw [← e, Nat.testBit_and] at hk
  simp at hk
  exact hk.2
theorem drawP_ok {ops : Array Oper} {ms : List Nat} : ∀ {l : List Oper} {as : List Nat} {i : Nat} {wr rs : Tr Nat}, (∀ q, l[q]? = ops[i + q]?) → (∀ q, as[q]? = ms[i + q]?) → drawP ops.toList l as i wr rs = true →
    (∀ j oj t, j < i → ops[j]? = some oj → oj.dst = some t → wr.get t = some j) → (∀ j oj t, j < i → ops[j]? = some oj → t ∈ readsOf ops.toList oj → ∃ k, rs.get t = some k ∧ k.testBit j = true) → ∀ q, q < l.length → DrawS ops ms (i + q)
  | [], _, i, wr, rs, _, _, _, _, _, q, hq => by simp at hq
  | o :: r, [], i, wr, rs, _, _, h, _, _, q, hq => by simp [drawP] at h
  | o :: r, a :: as, i, wr, rs, hl, hm, h, hw, hr, q, hq => by
    have h0 : ops[i]? = some o := by simpa using (hl 0).symm
    have m0 : ms[i]? = some a := by simpa using (hm 0).symm
    simp only [drawP, Bool.and_eq_true] at h
    obtain ⟨⟨h1, h2⟩, h3⟩ := h
    have hrs : ∀ j oj t, j < i + 1 → ops[j]? = some oj → t ∈ readsOf ops.toList oj → ∃ k, (setAll rs (2 ^ i) (readsOf ops.toList o)).get t = some k ∧ k.testBit j = true := fun j oj t hj hoj ht => by
      refine setAll_get ?_
      by_cases e : j = i
      · subst e
        rw [h0] at hoj; cases hoj
        exact .inr ⟨ht, by rw [testBit_pow]; simp⟩
      · exact .inl (hr j oj t (by omega) hoj ht)
    have hedge : ∀ o' e, ops[i]? = some o' → e ∈ o'.after.toList → Region.binds .any e = true → e.on < i := fun o' e ho he hb => by
      rw [h0] at ho; cases ho
      have := List.all_eq_true.1 h1 e he
      simp only [hb, Bool.not_true, Bool.false_or] at this
      exact Eq.mp Nat.blt_eq this
    have hreads : ∀ o' oj j t a', ops[i]? = some o' → ops[j]? = some oj → j < i → oj.dst = some t → t ∈ readsOf ops.toList o' → ms[i]? = some a' → a'.testBit j = true := fun o' oj j t a' ho hoj hj hd ht ha => by
      rw [h0] at ho; cases ho
      rw [m0] at ha; cases ha
      have := List.all_eq_true.1 h2 t ht
      rw [hw j oj t hj hoj hd] at this
      exact this
    have next : ∀ wr', drawP ops.toList r as (i + 1) wr' (setAll rs (2 ^ i) (readsOf ops.toList o)) = true → (∀ j oj t, j < i + 1 → ops[j]? = some oj → oj.dst = some t → wr'.get t = some j) → ∀ q, q < r.length → DrawS ops ms (i + (q + 1)) := fun wr' hp hw' q hq => by
      have := drawP_ok (ops := ops) (ms := ms) (fun q => by have := hl (q + 1); rw [Nat.add_assoc, Nat.add_comm 1 q]; simpa using this) (fun q => by have := hm (q + 1); rw [Nat.add_assoc, Nat.add_comm 1 q]; simpa using this) hp hw' hrs q hq
      rw [Nat.add_assoc, Nat.add_comm 1 q] at this
      exact this
    cases hd : o.dst with
    | none =>
      rw [hd] at h3
      cases q with
      | zero =>
        refine ⟨hedge, hreads, fun o' oj j t a' ho _ _ ht => ?_, fun o' oj j t ho _ _ ht => ?_⟩
        · rw [Nat.add_zero, h0] at ho; cases ho; rw [hd] at ht; cases ht
        · rw [Nat.add_zero, h0] at ho; cases ho; rw [hd] at ht; cases ht
      | succ q =>
        refine next wr h3 (fun j oj t hj hoj hdj => ?_) q (by simpa using hq)
        by_cases e : j = i
        · subst e; rw [h0] at hoj; cases hoj; rw [hd] at hdj; cases hdj
        · exact hw j oj t (by omega) hoj hdj
    | some d =>
      rw [hd] at h3
      simp only [Bool.and_eq_true] at h3
      obtain ⟨⟨h4, h5⟩, h6⟩ := h3
      cases q with
      | zero =>
        refine ⟨hedge, hreads, fun o' oj j t a' ho hoj hj ht hrd ha => ?_, fun o' oj j t ho hoj hj ht hdj => ?_⟩
        · rw [Nat.add_zero, h0] at ho; cases ho
          rw [Nat.add_zero, m0] at ha; cases ha
          rw [hd] at ht; cases ht
          obtain ⟨k, hk, hb⟩ := hr j oj d (by omega) hoj hrd
          rw [hk] at h5
          exact and_beq h5 hb
        · rw [Nat.add_zero, h0] at ho; cases ho
          rw [hd] at ht; cases ht
          rw [hw j oj d (by omega) hoj hdj] at h4
          cases h4
      | succ q =>
        refine next (wr.set d i) h6 (fun j oj t hj hoj hdj => ?_) q (by simpa using hq)
        rw [Tr.get_set]
        by_cases e : j = i
        · subst e; rw [h0] at hoj; cases hoj; rw [hd] at hdj; cases hdj; rw [if_pos rfl]
        · rw [if_neg]
          · exact hw j oj t (by omega) hoj hdj
          · rintro rfl
            rw [hw j oj t (by omega) hoj hdj] at h4
            cases h4
end Go.Ev
end

section
set_option linter.unusedVariables false
set_option linter.unusedSimpArgs false
namespace Go.Ev
variable {P : Program} {cx : Cx} {w : World} {f : FM} {G : GM} {h : Hp}
/-! ### What the walk in the order of the text has found of each operation -/
inductive Cl where
  | free | load (b : Nat) | alloc | w (b : Nat) | r | o
def ClassOk (s : St) (op : Op) (i a : Nat) (d d' : Dc) (h' : Hp) : Cl → Prop
  | .free => free op = true ∧ d' = d
  | .load b => kindD s op = .load b ∧ okD d a s.h.next (.load b) = true ∧ d' = { d with all := d.all ||| 2 ^ i, ls := (i, b, b + 1) :: d.ls }
  | .alloc => kindD s op = .alloc ∧ okD d a s.h.next .alloc = true ∧ d' = { d with all := d.all ||| 2 ^ i, ls := (i, s.h.next, h'.next) :: d.ls }
  | .w b => kindD s op = .w b ∧ okD d a s.h.next (.w b) = true ∧ d' = { d with all := d.all ||| 2 ^ i, ws := (i, b) :: d.ws }
  | .r => s.h.next ≤ h'.low ∧ sub d.om a = true ∧ (d.ws.all fun x => a.testBit x.1) = true ∧ d' = { d with all := d.all ||| 2 ^ i, gm := d.gm ||| 2 ^ i }
  | .o => sub d.all a = true ∧ d' = { d with all := d.all ||| 2 ^ i, om := d.om ||| 2 ^ i }
theorem stepD_ok {s : St} {op : Op} {i a : Nat} {d d' : Dc} {h' : Hp} (hs : stepD s op i a d h' = some d') : ∃ c, ClassOk s op i a d d' h' c := by
  unfold stepD at hs
  split at hs
  · rename_i hf
    cases hs
    exact ⟨.free, hf, rfl⟩
  · simp only at hs
    split at hs
    · rename_i hok
      cases hk : kindD s op with
      | load b => rw [hk] at hs hok; cases hs; exact ⟨.load b, hk, hok, rfl⟩
      | alloc => rw [hk] at hs hok; cases hs; exact ⟨.alloc, hk, hok, rfl⟩
      | w b => rw [hk] at hs hok; cases hs; exact ⟨.w b, hk, hok, rfl⟩
      | gen => rw [hk] at hok; cases hok
    · split at hs
      · rename_i hr
        cases hs
        simp only [Bool.and_eq_true] at hr
        exact ⟨.r, Nat.le_of_ble_eq_true hr.1.1, hr.1.2, hr.2, rfl⟩
      · split at hs
        · rename_i ho
          cases hs
          exact ⟨.o, ho, rfl⟩
        · cases hs
/-- one operation in the order of the text -/
def StepI (P : Program) (cx : Cx) (L : List Oper) (o : Oper) (i a : Nat) (s s' : St) (d d' : Dc) (c : Cl) : Prop :=
  (wanted L s.tm o = false ∧ s' = s.put o.dst .und ∧ d' = d ∧ c = .free) ∨
  (wanted L s.tm o = true ∧ ∃ v h', OpI P cx L o s.tm ⟨s.h.tr, s.h.next, s.h.next⟩ v h' ∧ s' = St.put ⟨s.tm, ⟨h'.tr, h'.next, min s.h.low h'.low⟩⟩ o.dst v ∧ ClassOk s o.op i a d d' h' c)
theorem draw_trace {rec : Tk → Rs → Prop} {n : Nat} (hc : CxOk P cx) (H : ∀ t r, rec t r → Sound P cx n t r) {ops : Array Oper} {ms : List Nat} {k : St → M} {res : Rs} :
    ∀ (l : List Oper) (as : List Nat) (i : Nat) (d : Dc) (s : St), (∀ q, l[q]? = ops[i + q]?) → (∀ q, as[q]? = ms[i + q]?) → (evDraw cx ops.toList l as i d s k).runR rec res →
      ∃ (st : Nat → St) (dc : Nat → Dc) (cl : Nat → Cl), st i = s ∧ dc i = d ∧ (∀ q, q < l.length → ∃ o a, ops[i + q]? = some o ∧ ms[i + q]? = some a ∧ StepI P cx ops.toList o (i + q) a (st (i + q)) (st (i + q + 1)) (dc (i + q)) (dc (i + q + 1)) (cl (i + q))) ∧
        (k (st (i + l.length))).runR rec res
  | [], as, i, d, s, _, _, he => ⟨fun _ => s, fun _ => d, fun _ => .free, rfl, rfl, fun q hq => by simp at hq, he⟩
  | o :: rest, [], i, d, s, _, _, he => (run_no he).elim
  | o :: rest, a :: as, i, d, s, hl, hm, he => by
    have h0 : ops[i]? = some o := by simpa using (hl 0).symm
    have m0 : ms[i]? = some a := by simpa using (hm 0).symm
    have hl' : ∀ q, rest[q]? = ops[i + 1 + q]? := fun q => by have := hl (q + 1); rw [Nat.add_assoc, Nat.add_comm 1 q]; simpa using this
    have hm' : ∀ q, as[q]? = ms[i + 1 + q]? := fun q => by have := hm (q + 1); rw [Nat.add_assoc, Nat.add_comm 1 q]; simpa using this
    have glue : ∀ (s1 : St) (d1 : Dc) (c : Cl), StepI P cx ops.toList o i a s s1 d d1 c → (evDraw cx ops.toList rest as (i + 1) d1 s1 k).runR rec res → ∃ (st : Nat → St) (dc : Nat → Dc) (cl : Nat → Cl), st i = s ∧ dc i = d ∧
        (∀ q, q < (o :: rest).length → ∃ o a, ops[i + q]? = some o ∧ ms[i + q]? = some a ∧ StepI P cx ops.toList o (i + q) a (st (i + q)) (st (i + q + 1)) (dc (i + q)) (dc (i + q + 1)) (cl (i + q))) ∧ (k (st (i + (o :: rest).length))).runR rec res := fun s1 d1 c hstep he1 => by
      obtain ⟨st, dc, cl, e1, e2, e3, e4⟩ := draw_trace hc H rest as (i + 1) d1 s1 hl' hm' he1
      refine ⟨fun j => if j = i then s else st j, fun j => if j = i then d else dc j, fun j => if j = i then c else cl j, by simp, by simp, fun q hq => ?_, ?_⟩
      · cases q with
        | zero => exact ⟨o, a, h0, m0, by simpa [e1, e2] using hstep⟩
        | succ q =>
          obtain ⟨o', a', g1, g2, g3⟩ := e3 q (by simpa using hq)
          have ea : i + 1 + q = i + (q + 1) := by omega
          rw [ea] at g1 g2 g3
          refine ⟨o', a', g1, g2, ?_⟩
          have n1 : ¬ (i + (q + 1) = i) := by omega
          have n2 : ¬ (i + (q + 1) + 1 = i) := by omega
          simp only [n1, n2, if_false]
          exact g3
      · have ea : i + 1 + rest.length = i + (o :: rest).length := by simp; omega
        rw [ea] at e4
        have n1 : ¬ (i + (o :: rest).length = i) := by simp
        simp only [n1, if_false]
        exact e4
    simp only [evDraw] at he
    split at he
    · rename_i hw
      obtain ⟨v, h', hop, he1⟩ := opI_ok (ops := ops.toList) hc H he
      split at he1
      · rename_i d1 hd1
        obtain ⟨c, hcl⟩ := stepD_ok hd1
        exact glue _ d1 c (.inr ⟨hw, v, h', hop, rfl, hcl⟩) he1
      · exact (run_no he1).elim
    · rename_i hw
      exact glue _ d .free (.inl ⟨by simpa using hw, rfl, rfl, rfl⟩) he
/-- what is kept of the operations before -/
def DcI (st : Nat → St) (cl : Nat → Cl) (i : Nat) (d : Dc) : Prop := ∀ j, j < i → match cl j with
  | .free => True
  | .load b => d.all.testBit j = true ∧ (j, b, b + 1) ∈ d.ls
  | .alloc => d.all.testBit j = true ∧ (j, (st j).h.next, (st (j + 1)).h.next) ∈ d.ls
  | .w b => d.all.testBit j = true ∧ (j, b) ∈ d.ws
  | .r => d.all.testBit j = true ∧ d.gm.testBit j = true
  | .o => d.all.testBit j = true ∧ d.om.testBit j = true
/-- the pairs that may come up in either order: i before j in the text -/
def Pair (st : Nat → St) (i : Nat) : Cl → Cl → Prop
  | .free, _ | _, .free => True
  | .load _, .load _ | .load _, .alloc | .alloc, .load _ | .alloc, .alloc => True
  | .r, .load _ | .r, .alloc | .load _, .r | .alloc, .r | .r, .r => True
  | .w t, .load b => t ≠ b
  | .w _, .alloc => True
  | .load b, .w t => t ≠ b
  | .alloc, .w t => ¬ ((st i).h.next ≤ t ∧ t < (st (i + 1)).h.next)
  | _, _ => False
theorem or_bit {a b j : Nat} (h : a.testBit j = true) : (a ||| b).testBit j = true := by rw [Nat.testBit_or, h]; rfl
theorem or_bit' {a i : Nat} : (a ||| 2 ^ i).testBit i = true := by rw [Nat.testBit_or, testBit_pow]; simp
theorem stp_next {s : St} {o : Option Nat} {v : V} : (s.put o v).h.next = s.h.next := by cases o <;> rfl
theorem dcI_step {L : List Oper} {o : Oper} {a i : Nat} {st : Nat → St} {cl : Nat → Cl} {d d' : Dc} (hd : DcI st cl i d) (hs : StepI P cx L o i a (st i) (st (i + 1)) d d' (cl i)) : DcI st cl (i + 1) d' := by
  intro j hj
  rcases hs with ⟨_, _, rfl, hf⟩ | ⟨_, v, h', _, hst, hcl⟩
  · by_cases e : j = i
    · subst e; rw [hf]; trivial
    · exact hd j (by omega)
  · have hnx : (st (i + 1)).h.next = h'.next := by rw [hst, stp_next]
    by_cases e : j = i
    · subst e
      cases hc : cl j with
      | free => trivial
      | load b => rw [hc] at hcl; obtain ⟨_, _, rfl⟩ := hcl; exact ⟨or_bit', by simp⟩
      | alloc => rw [hc] at hcl; obtain ⟨_, _, rfl⟩ := hcl; exact ⟨or_bit', by rw [hnx]; simp⟩
      | w b => rw [hc] at hcl; obtain ⟨_, _, rfl⟩ := hcl; exact ⟨or_bit', by simp⟩
      | r => rw [hc] at hcl; obtain ⟨_, _, _, rfl⟩ := hcl; exact ⟨or_bit', or_bit'⟩
      | o => rw [hc] at hcl; obtain ⟨_, rfl⟩ := hcl; exact ⟨or_bit', or_bit'⟩
    · have hj' := hd j (by omega)
      have grow : ∀ d2 : Dc, (∀ q, d.all.testBit q = true → d2.all.testBit q = true) → (∀ q, d.om.testBit q = true → d2.om.testBit q = true) → (∀ q, d.gm.testBit q = true → d2.gm.testBit q = true) → (∀ x ∈ d.ws, x ∈ d2.ws) → (∀ x ∈ d.ls, x ∈ d2.ls) →
          (match cl j with
            | .free => True
            | .load b => d2.all.testBit j = true ∧ (j, b, b + 1) ∈ d2.ls
            | .alloc => d2.all.testBit j = true ∧ (j, (st j).h.next, (st (j + 1)).h.next) ∈ d2.ls
            | .w b => d2.all.testBit j = true ∧ (j, b) ∈ d2.ws
            | .r => d2.all.testBit j = true ∧ d2.gm.testBit j = true
            | .o => d2.all.testBit j = true ∧ d2.om.testBit j = true) := fun d2 g1 g2 g3 g4 g5 => by
        cases hc : cl j <;> rw [hc] at hj'
        · trivial
        · exact ⟨g1 _ hj'.1, g5 _ hj'.2⟩
        · exact ⟨g1 _ hj'.1, g5 _ hj'.2⟩
        · exact ⟨g1 _ hj'.1, g4 _ hj'.2⟩
        · exact ⟨g1 _ hj'.1, g3 _ hj'.2⟩
        · exact ⟨g1 _ hj'.1, g2 _ hj'.2⟩
      cases hc : cl i with
      | free => rw [hc] at hcl; obtain ⟨_, rfl⟩ := hcl; exact hj'
      | load b => rw [hc] at hcl; obtain ⟨_, _, rfl⟩ := hcl; exact grow _ (fun _ => or_bit) (fun _ h => h) (fun _ h => h) (fun _ h => h) (fun _ h => List.mem_cons_of_mem _ h)
      | alloc => rw [hc] at hcl; obtain ⟨_, _, rfl⟩ := hcl; exact grow _ (fun _ => or_bit) (fun _ h => h) (fun _ h => h) (fun _ h => h) (fun _ h => List.mem_cons_of_mem _ h)
      | w b => rw [hc] at hcl; obtain ⟨_, _, rfl⟩ := hcl; exact grow _ (fun _ => or_bit) (fun _ h => h) (fun _ h => h) (fun _ h => List.mem_cons_of_mem _ h) (fun _ h => h)
      | r => rw [hc] at hcl; obtain ⟨_, _, _, rfl⟩ := hcl; exact grow _ (fun _ => or_bit) (fun _ h => h) (fun _ => or_bit) (fun _ h => h) (fun _ h => h)
      | o => rw [hc] at hcl; obtain ⟨_, rfl⟩ := hcl; exact grow _ (fun _ => or_bit) (fun _ => or_bit) (fun _ h => h) (fun _ h => h) (fun _ h => h)
theorem sub_bit {m a j : Nat} (h : sub m a = true) (hm : m.testBit j = true) : a.testBit j = true := and_beq h hm
theorem pair_ok {L : List Oper} {o : Oper} {a i : Nat} {st : Nat → St} {cl : Nat → Cl} {d d' : Dc} (hd : DcI st cl i d) (hs : StepI P cx L o i a (st i) (st (i + 1)) d d' (cl i)) {j : Nat} (hj : j < i) (hn : a.testBit j = false) : Pair st j (cl j) (cl i) := by
  have hdj := hd j hj
  rcases hs with ⟨_, _, _, hf⟩ | ⟨_, v, h', _, _, hcl⟩
  · rw [hf]; cases cl j <;> trivial
  · have no : ∀ {m : Nat}, sub m a = true → m.testBit j = true → False := fun h1 h2 => by rw [sub_bit h1 h2] at hn; cases hn
    have nows : ∀ {l : List (Nat × Nat)} {b : Nat}, (l.all fun x => a.testBit x.1) = true → (j, b) ∈ l → False := fun h1 h2 => by
      have := List.all_eq_true.1 h1 _ h2
      simp only at this
      rw [hn] at this; cases this
    cases hi : cl i with
    | free => cases cl j <;> trivial
    | load b =>
      rw [hi] at hcl
      obtain ⟨_, hok, _⟩ := hcl
      simp only [okD, Bool.and_eq_true] at hok
      obtain ⟨⟨_, h1⟩, h2⟩ := hok
      cases hc : cl j <;> rw [hc] at hdj <;> try trivial
      · rename_i t
        have := List.all_eq_true.1 h2 _ hdj.2
        simp only [hn, Bool.false_or, Bool.not_eq_true'] at this
        intro e
        rw [e, Nat.beq_refl] at this
        cases this
      · exact (no h1 hdj.2).elim
    | alloc =>
      rw [hi] at hcl
      obtain ⟨_, hok, _⟩ := hcl
      simp only [okD] at hok
      cases hc : cl j <;> rw [hc] at hdj <;> try trivial
      exact (no hok hdj.2).elim
    | w t =>
      rw [hi] at hcl
      obtain ⟨_, hok, _⟩ := hcl
      simp only [okD, Bool.and_eq_true] at hok
      obtain ⟨⟨⟨⟨_, h1⟩, h2⟩, h3⟩, h4⟩ := hok
      cases hc : cl j <;> rw [hc] at hdj <;> try trivial
      · rename_i b
        have := List.all_eq_true.1 h4 _ hdj.2
        simp only [hn, Bool.false_or, Bool.not_eq_true', Bool.and_eq_false_iff] at this
        intro e
        subst e
        rcases this with this | this
        · rw [Nat.ble_eq_true_of_le (Nat.le_refl _)] at this; cases this
        · rw [Eq.mpr Nat.blt_eq (Nat.lt_succ_self _)] at this; cases this
      · have := List.all_eq_true.1 h4 _ hdj.2
        simp only [hn, Bool.false_or, Bool.not_eq_true', Bool.and_eq_false_iff] at this
        rintro ⟨e1, e2⟩
        rcases this with this | this
        · rw [Nat.ble_eq_true_of_le e1] at this; cases this
        · rw [Eq.mpr Nat.blt_eq e2] at this; cases this
      · exact (nows h3 hdj.2).elim
      · exact (no h2 hdj.2).elim
      · exact (no h1 hdj.2).elim
    | r =>
      rw [hi] at hcl
      obtain ⟨_, h1, h2, _⟩ := hcl
      cases hc : cl j <;> rw [hc] at hdj <;> try trivial
      · exact (nows h2 hdj.2).elim
      · exact (no h1 hdj.2).elim
    | o =>
      rw [hi] at hcl
      obtain ⟨h1, _⟩ := hcl
      cases hc : cl j <;> rw [hc] at hdj <;> try trivial
      all_goals exact (no h1 hdj.1).elim
end Go.Ev
end

section
set_option linter.unusedVariables false
set_option linter.unusedSimpArgs false
namespace Go.Ev
variable {P : Program} {cx : Cx} {w : World} {f : FM} {G : GM} {h : Hp}
/-! ### What each class of operation does to the heap -/
theorem keep_any {h h' h2 : Hp} {o : Option V} {v : V} (e : keep h o = some (v, h')) : h' = h ∧ keep h2 o = some (v, h2) := by
  obtain ⟨e1, e2⟩ := keep_some e
  exact ⟨e2, by rw [e1]; rfl⟩
theorem free_same {tm : List V} {h h' : Hp} {op : Op} {v : V} (hf : free op = true) (e : opP cx ⟨tm, h⟩ op = some (v, h')) : h' = h ∧ ∀ h2, opP cx ⟨tm, h2⟩ op = some (v, h2) := by
  have all : (∀ h2, h' = h ∧ opP cx ⟨tm, h2⟩ op = some (v, h2)) → h' = h ∧ ∀ h2, opP cx ⟨tm, h2⟩ op = some (v, h2) := fun H => ⟨(H h).1, fun h2 => (H h2).2⟩
  refine all fun h2 => ?_
  cases op <;> simp only [free, Bool.false_eq_true] at hf <;> simp only [opP] at e ⊢
  case move => exact keep_any e
  case assign => exact keep_any e
  case pick => unfold opPick at e ⊢; simp only at e ⊢; split at e <;> first | exact keep_any e | cases e
  case build => unfold opBuild at e ⊢; simp only at e ⊢; split at e <;> first | exact keep_any e | cases e
  case nilCheck => unfold opNilCheck at e ⊢; simp only at e ⊢; split at e <;> first | (cases e; exact ⟨rfl, rfl⟩) | cases e
  case binOp => unfold opBin at e ⊢; simp only at e ⊢; split at e <;> first | exact keep_any e | cases e
  case unOp => unfold opUn at e ⊢; simp only at e ⊢; split at e <;> first | exact keep_any e | cases e
  case makeInterface =>
    unfold opMkIface at e ⊢
    simp only at e ⊢
    split at e
    · split at e
      · cases e
      · cases e; exact ⟨rfl, rfl⟩
    · cases e
  case makeFunc => unfold opMkFunc at e ⊢; simp only at e ⊢; split at e <;> first | (cases e; exact ⟨rfl, rfl⟩) | cases e
  case slice => unfold opSlice at e ⊢; simp only at e ⊢; split at e <;> first | exact keep_any e | cases e
  case fieldAddr => unfold opFieldAddr at e ⊢; simp only at e ⊢; split at e <;> first | exact keep_any e | cases e
  case field => unfold opField at e ⊢; simp only at e ⊢; split at e <;> first | exact keep_any e | cases e
  case indexAddr => unfold opIndexAddr at e ⊢; simp only at e ⊢; split at e <;> first | exact keep_any e | cases e
  case index => unfold opIndex at e ⊢; simp only at e ⊢; split at e <;> first | exact keep_any e | cases e
  case extract => unfold opExtract at e ⊢; simp only at e ⊢; split at e <;> first | exact keep_any e | cases e
theorem load_same {tm : List V} {h h' : Hp} {t : Nat} {a : Operand} {v : V} (e : opP cx ⟨tm, h⟩ (.load t a) = some (v, h')) :
    h' = h ∧ ∀ h2 : Hp, (∀ b, blk (ev tm a) = some b → h2.get b = h.get b) → opP cx ⟨tm, h2⟩ (.load t a) = some (v, h2) := by
  simp only [opP, opLoad] at e ⊢
  split at e
  case h_2 => cases e
  rename_i x hx
  obtain ⟨e1, e2⟩ := keep_some e
  refine ⟨e2, fun h2 hh => ?_⟩
  have : loadAt cx h2 t x = loadAt cx h t x := by
    unfold loadAt
    split
    · rfl
    · split
      · rename_i b r j
        rw [hh b (by rw [hx]; rfl)]
      · rfl
      · rfl
  rw [this, e1]; rfl
theorem alloc_same {s0 : St} {tm : List V} (htm : s0.tm = tm) {h h' : Hp} {op : Op} {v : V} (hk : kindD s0 op = .alloc) (e : opP cx ⟨tm, h⟩ op = some (v, h')) :
    (h' = h ∧ ∀ h2, opP cx ⟨tm, h2⟩ op = some (v, h2)) ∨ (∃ o', h' = h.add o' ∧ ∀ h2 : Hp, h2.next = h.next → opP cx ⟨tm, h2⟩ op = some (v, h2.add o')) := by
  subst htm
  cases op <;> simp only [kindD] at hk
  case load t a =>
    left
    obtain ⟨e1, e2⟩ := load_same e
    refine ⟨e1, fun h2 => e2 h2 fun b hb => ?_⟩
    rw [hb] at hk; cases hk
  case alloc =>
    right
    simp only [opP, opAlloc] at e ⊢
    split at e
    · rename_i z hz
      cases e
      exact ⟨_, rfl, fun h2 hn => by rw [hn]; rfl⟩
    · cases e
  case box =>
    right
    simp only [opP, opBox] at e ⊢
    split at e
    · split at e
      · cases e
        exact ⟨_, rfl, fun h2 hn => by rw [hn]; rfl⟩
      · cases e
    · cases e
  case buildSlice =>
    right
    simp only [opP, opBuildSlice] at e ⊢
    split at e
    case h_2 => cases e
    split at e
    case h_2 => cases e
    split at e
    case h_2 => cases e
    split at e
    case h_2 => cases e
    split at e
    case isFalse => cases e
    rename_i hcond
    split at e
    case h_2 => cases e
    cases e
    exact ⟨_, rfl, fun h2 hn => by rw [hn]; simp only [if_pos hcond]⟩
  case makeSlice =>
    right
    simp only [opP, opMkSlice] at e ⊢
    split at e
    case h_2 => cases e
    split at e
    case h_2 => cases e
    split at e
    case h_2 => cases e
    split at e
    case h_2 => cases e
    split at e
    case isFalse => cases e
    rename_i hcond
    cases e
    exact ⟨_, rfl, fun h2 hn => by rw [hn]; simp only [if_pos hcond]⟩
  case makeMap t r =>
    right
    cases r with
    | none =>
      simp only [opP, opMkMap, Option.some.injEq, Prod.mk.injEq] at e ⊢
      obtain ⟨rfl, rfl⟩ := e
      exact ⟨_, rfl, fun h2 hn => ⟨by rw [hn], rfl⟩⟩
    | some r => cases e
  case store => split at hk <;> cases hk
  case call =>
    split at hk
    · split at hk <;> cases hk
    · cases hk
  all_goals cases hk
theorem w_same {L : List Oper} {s0 : St} {o : Oper} {h h' : Hp} {v : V} {t : Nat} (hk : kindD s0 o.op = .w t) (ho : OpI P cx L o s0.tm h v h') : h.next ≤ h'.next ∧ ∀ b, b < h.next → b ≠ t → h'.get b = h.get b := by
  refine ⟨ho.keep.1, fun b hb hne => ?_⟩
  cases hop : o.op <;> rw [hop] at hk <;> simp only [kindD] at hk
  case load => split at hk <;> cases hk
  case store ty a x =>
    have e := ho.eq (by rw [hop]; rfl)
    rw [hop] at e
    simp only [opP, opStore] at e
    split at hk
    case h_2 => cases hk
    rename_i b' hb'
    cases hk
    split at e
    case h_2 => cases e
    rename_i va vx hva hvx
    split at e
    case h_2 => cases e
    rename_i h2 hs
    cases e
    rw [hva] at hb'
    unfold storeAt at hs
    split at hs
    · split at hs
      case h_2 => cases hs
      split at hs
      case h_2 => cases hs
      split at hs
      case h_2 => cases hs
      split at hs
      case isFalse => cases hs
      split at hs
      case h_2 => cases hs
      cases hs
      simp only [blk, Option.some.injEq] at hb'
      rw [Hp.get_put, if_neg (by rw [hb']; exact hne)]
    · cases hs
  case call c =>
    split at hk
    case h_2 => cases hk
    rename_i x rest hcal hargs
    obtain ⟨args, h1, h2⟩ := ho.bi c .append hop hcal
    split at hk
    case h_2 => cases hk
    rename_i b' hb'
    cases hk
    rw [hargs] at h1
    simp only [evs] at h1
    split at h1
    case h_2 => cases h1
    rename_i x0 hx0
    split at h1
    case h_2 => cases h1
    rename_i xs hxs
    cases h1
    rw [hx0] at hb'
    generalize c.argTypes.toList = ts at h2
    rcases xs with _ | ⟨x1, _ | ⟨x2, xs⟩⟩ <;> rcases ts with _ | ⟨t1, _ | ⟨u1, _ | ⟨u2, us⟩⟩⟩ <;> simp only [builtinV] at h2 <;> try cases h2
    split at h2
    case h_2 => cases h2
    split at h2
    · cases h2
    · unfold appendV at h2
      split at h2
      case h_2 => cases h2
      split at h2
      case h_2 => cases h2
      split at h2
      case h_2 => cases h2
      split at h2
      case h_2 => cases h2
      split at h2
      · cases h2; rfl
      · split at h2
        case isFalse => cases h2
        unfold grow at h2
        split at h2
        · cases h2; rw [Hp.get_add, if_neg (by omega)]
        · cases h2; rw [Hp.get_add, if_neg (by omega)]
        · simp only [blk, Option.some.injEq] at hb'
          split at h2
          · cases h2; rw [Hp.get_add, if_neg (by omega)]
          · cases h2
            rw [Hp.get_add, if_neg (by simp; omega), Hp.get_put, if_neg (by rw [hb']; exact hne)]
        · cases h2
  all_goals cases hk
end Go.Ev
end

section
set_option linter.unusedVariables false
set_option linter.unusedSimpArgs false
namespace Go.Ev
variable {P : Program} {cx : Cx} {w : World} {f : FM} {G : GM} {h : Hp}
/-! ### The walk in the order of the text, as a whole -/
structure Trc (P : Program) (cx : Cx) (ops : Array Oper) (ms : List Nat) (st : Nat → St) (dc : Nat → Dc) (cl : Nat → Cl) : Prop where
  step : ∀ i, i < ops.size → ∃ o a, ops[i]? = some o ∧ ms[i]? = some a ∧ StepI P cx ops.toList o i a (st i) (st (i + 1)) (dc i) (dc (i + 1)) (cl i)
  draw : ∀ i, i < ops.size → DrawS ops ms i
  dep : ∀ i a, ms[i]? = some a → ∀ j, a.testBit j = true → Dep ops i j
  dcI : ∀ i, i ≤ ops.size → DcI st cl i (dc i)
/-- op i touches block b: it is born there, or its content turns -/
def Tch (st : Nat → St) (i b : Nat) : Prop := ((st i).h.next ≤ b ∧ b < (st (i + 1)).h.next) ∨ (b < (st i).h.next ∧ (st (i + 1)).h.get b ≠ (st i).h.get b)
theorem put_get (s : St) (d : Option Nat) (v : V) (b : Nat) : (s.put d v).h.get b = s.h.get b := by rw [stput_h]
section
variable {ops : Array Oper} {ms : List Nat} {st : Nat → St} {dc : Nat → Dc} {cl : Nat → Cl}
theorem Trc.mono (T : Trc P cx ops ms st dc cl) {i : Nat} (hi : i < ops.size) : (st i).h.next ≤ (st (i + 1)).h.next := by
  obtain ⟨o, a, h1, h2, h3⟩ := T.step i hi
  rcases h3 with ⟨_, e, _, _⟩ | ⟨_, v, h', hop, e, _⟩
  · rw [e, stput_h]; exact Nat.le_refl _
  · rw [e, stput_h]; exact hop.keep.1
theorem Trc.mono' (T : Trc P cx ops ms st dc cl) {i j : Nat} (hij : i ≤ j) (hj : j ≤ ops.size) : (st i).h.next ≤ (st j).h.next := by
  induction j with
  | zero =>
    have : i = 0 := by omega
    subst this; exact Nat.le_refl _
  | succ j ih =>
    by_cases e : i = j + 1
    · subst e; exact Nat.le_refl _
    · exact Nat.le_trans (ih (by omega) (by omega)) (T.mono (by omega))
theorem Trc.low (T : Trc P cx ops ms st dc cl) {i : Nat} (hi : i < ops.size) : (st (i + 1)).h.low ≤ (st i).h.low := by
  obtain ⟨o, a, h1, h2, h3⟩ := T.step i hi
  rcases h3 with ⟨_, e, _, _⟩ | ⟨_, v, h', hop, e, _⟩
  · rw [e, stput_h]; exact Nat.le_refl _
  · rw [e, stput_h]; exact Nat.min_le_left _ _
theorem Trc.low' (T : Trc P cx ops ms st dc cl) {i j : Nat} (hij : i ≤ j) (hj : j ≤ ops.size) : (st j).h.low ≤ (st i).h.low := by
  induction j with
  | zero =>
    have : i = 0 := by omega
    subst this; exact Nat.le_refl _
  | succ j ih =>
    by_cases e : i = j + 1
    · subst e; exact Nat.le_refl _
    · exact Nat.le_trans (T.low (by omega)) (ih (by omega) (by omega))
/-- an operation that calls nothing, out of the ones that are told by their kind -/
theorem kind_nocall {s : St} {op : Op} : (∃ b, kindD s op = .load b) ∨ kindD s op = .alloc → isCall op = false := by
  intro hk
  cases op <;> first | rfl | skip
  exfalso
  simp only [kindD] at hk
  split at hk
  · split at hk <;> rcases hk with ⟨_, hk⟩ | hk <;> cases hk
  · rcases hk with ⟨_, hk⟩ | hk <;> cases hk
theorem Trc.touch (T : Trc P cx ops ms st dc cl) {i b : Nat} (hi : i < ops.size) (ht : Tch st i b) : match cl i with
    | .free | .load _ => False
    | .alloc | .r => (st i).h.next ≤ b ∧ b < (st (i + 1)).h.next
    | .w t => b = t ∧ t < (st i).h.next ∨ ((st i).h.next ≤ b ∧ b < (st (i + 1)).h.next)
    | .o => True := by
  obtain ⟨o, a, h1, h2, h3⟩ := T.step i hi
  rcases h3 with ⟨_, e, _, ec⟩ | ⟨_, v, h', hop, e, hcl⟩
  · rw [ec]
    rcases ht with ⟨t1, t2⟩ | ⟨t1, t2⟩
    · rw [e, stput_h] at t2; omega
    · rw [e, stput_h] at t2; exact t2 rfl
  · have hn : (st (i + 1)).h.next = h'.next := by rw [e, stput_h]
    have hg : ∀ b, (st (i + 1)).h.get b = h'.get b := fun b => by rw [e, put_get]; rfl
    have hg0 : ∀ b, (⟨(st i).h.tr, (st i).h.next, (st i).h.next⟩ : Hp).get b = (st i).h.get b := fun b => rfl
    have same : h' = ⟨(st i).h.tr, (st i).h.next, (st i).h.next⟩ → False := fun hh => by
      rcases ht with ⟨t1, t2⟩ | ⟨t1, t2⟩
      · rw [hn, hh] at t2; simp only at t2; omega
      · exact t2 (by rw [hg, hh]; rfl)
    have born : (∀ b, b < (st i).h.next → h'.get b = (st i).h.get b) → (st i).h.next ≤ b ∧ b < (st (i + 1)).h.next := fun hh => by
      rcases ht with t1 | ⟨t1, t2⟩
      · exact t1
      · exact absurd (by rw [hg, hh b t1]) t2
    cases hc : cl i with
    | free =>
      rw [hc] at hcl
      have hnc : isCall o.op = false := by have := hcl.1; cases hop' : o.op <;> rw [hop'] at this <;> first | rfl | cases this
      exact same (free_same hcl.1 (hop.eq hnc)).1
    | load b0 =>
      rw [hc] at hcl
      have hnc := kind_nocall (.inl ⟨_, hcl.1⟩)
      have he := hop.eq hnc
      have hk := hcl.1
      cases hop' : o.op <;> rw [hop'] at hk he <;> simp only [kindD] at hk
      case load => exact same (load_same he).1
      case store => split at hk <;> cases hk
      case call => rw [hop'] at hnc; exact absurd hnc (by simp [isCall])
      all_goals cases hk
    | alloc =>
      rw [hc] at hcl
      have hnc := kind_nocall (.inr hcl.1)
      rcases alloc_same rfl hcl.1 (hop.eq hnc) with ⟨e1, _⟩ | ⟨o', e1, _⟩
      · exact (same e1).elim
      · exact born fun b hb => by rw [e1, Hp.get_add, if_neg (by simp only; omega)]; rfl
    | w t =>
      rw [hc] at hcl
      obtain ⟨hk, hok, _⟩ := hcl
      have hw := w_same hk hop
      simp only [okD, Bool.and_eq_true] at hok
      have htn : t < (st i).h.next := Eq.mp Nat.blt_eq hok.1.1.1.1
      rcases ht with t1 | ⟨t1, t2⟩
      · exact .inr t1
      · by_cases eb : b = t
        · exact .inl ⟨eb, htn⟩
        · exact absurd (by rw [hg, hw.2 b t1 eb]; rfl) t2
    | r =>
      rw [hc] at hcl
      exact born fun b hb => by
        have := hop.keep.2.2.2 b hb (Nat.lt_of_lt_of_le hb hcl.1)
        rw [this]; rfl
    | o => trivial
theorem Trc.same (T : Trc P cx ops ms st dc cl) {b p q : Nat} (hpq : p ≤ q) (hq : q ≤ ops.size) (hb : b < (st p).h.next) (hn : ∀ j, p ≤ j → j < q → ¬ Tch st j b) : (st q).h.get b = (st p).h.get b := by
  induction q with
  | zero =>
    have : p = 0 := by omega
    subst this; rfl
  | succ q ih =>
    by_cases e : p = q + 1
    · subst e; rfl
    · rw [← ih (by omega) (by omega) fun j h1 h2 => hn j h1 (by omega)]
      have h1 := hn q (by omega) (by omega)
      have hbq := Nat.lt_of_lt_of_le hb (T.mono' (i := p) (j := q) (by omega) (by omega))
      apply Classical.byContradiction
      intro hne
      exact h1 (.inr ⟨hbq, hne⟩)
/-- what the set S of operations has made of block b stands at place q of the walk -/
structure Cons (ops : Array Oper) (st : Nat → St) (S : Nat → Prop) (b q : Nat) : Prop where
  le : q ≤ ops.size
  lt : b < (st q).h.next
  did : ∀ j, j < ops.size → S j → Tch st j b → j < q
  not : ∀ j, j < ops.size → ¬ S j → Tch st j b → q ≤ j
theorem Cons.same (T : Trc P cx ops ms st dc cl) {S : Nat → Prop} {b q q' : Nat} (c : Cons ops st S b q) (c' : Cons ops st S b q') : (st q).h.get b = (st q').h.get b := by
  have half : ∀ {q q' : Nat}, Cons ops st S b q → Cons ops st S b q' → q ≤ q' → (st q').h.get b = (st q).h.get b := fun {q q'} c c' hle => by
    refine T.same hle c'.le c.lt fun j h1 h2 ht => ?_
    by_cases hs : S j
    · have := c.did j (by have := c'.le; omega) hs ht; omega
    · have := c'.not j (by have := c'.le; omega) hs ht; omega
  rcases Nat.le_total q q' with hle | hle
  · exact (half c c' hle).symm
  · exact half c' c hle
/-- i may come up now -/
def Rdy (ops : Array Oper) (S : Nat → Prop) (i : Nat) : Prop := ∀ o e, ops[i]? = some o → e ∈ o.after.toList → Region.binds .any e = true → S e.on
theorem Trc.late (T : Trc P cx ops ms st dc cl) {S : Nat → Prop} (hS : Closed ops S) {i j : Nat} (hi : ¬ S i) (hj : S j) (hij : i < j) (hjn : j < ops.size) : Pair st i (cl i) (cl j) := by
  obtain ⟨o, a, h1, h2, h3⟩ := T.step j hjn
  refine pair_ok (T.dcI j (by omega)) h3 hij ?_
  cases hb : a.testBit i with
  | false => rfl
  | true => exact absurd ((T.dep j a h2 i hb).closed hS fun o e g1 g2 g3 => hS j o e hj g1 g2 g3) hi
theorem Trc.early (T : Trc P cx ops ms st dc cl) {S : Nat → Prop} (hS : Closed ops S) {i j : Nat} (hr : Rdy ops S i) (hj : ¬ S j) (hij : j < i) (hin : i < ops.size) : Pair st j (cl j) (cl i) := by
  obtain ⟨o, a, h1, h2, h3⟩ := T.step i hin
  refine pair_ok (T.dcI i (by omega)) h3 hij ?_
  cases hb : a.testBit j with
  | false => rfl
  | true => exact absurd ((T.dep i a h2 j hb).closed hS hr) hj
end
end Go.Ev
end

section
set_option linter.unusedVariables false
set_option linter.unusedSimpArgs false
namespace Go.Ev
variable {P : Program} {cx : Cx} {w : World} {f : FM} {G : GM} {h : Hp}
def cutF (f : FM) (n : Nat) : FM := fun b => if b < n then f b else none
theorem cutF_le (f : FM) (n : Nat) : FLe (cutF f n) f := fun b y e => by
  simp only [cutF] at e
  split at e
  · exact e
  · cases e
theorem cutF_mono {f g : FM} {n m : Nat} (hf : FLe f g) (h : n ≤ m) : FLe (cutF f n) (cutF g m) := fun b y e => by
  simp only [cutF] at e ⊢
  split at e
  · rw [if_pos (by omega)]; exact hf _ _ e
  · cases e
theorem cutF_some {f : FM} {n b : Nat} {y : Nat × Nat × Nat} (e : cutF f n b = some y) : b < n ∧ f b = some y := by
  simp only [cutF] at e
  split at e
  · exact ⟨by assumption, e⟩
  · cases e
structure DI (P : Program) (ops : Array Oper) (st : Nat → St) (cl : Nat → Cl) (w0 : World) (f0 : FM) (G0 : GM) (ds : List Deferred) (S : Nat → Prop) (w : World) (f : FM) (G : GM) (a : Act) : Prop where
  os : w.os = w0.os
  tape : w.tape = w0.tape
  output : w.output = w0.output
  size : w0.heap.size ≤ w.heap.size
  sk : SKept w0 w
  fle : FLe f0 f
  gle : GLe G0 G
  gnew : ∀ β k, G β k → G0 β k ∨ w0.heap.size ≤ k
  gin : ∀ β k, G β k → k < w.heap.size
  gup : ∀ k, G false k → G true k
  rng : ∀ b k s z, f b = some (k, s, z) → k < w.heap.size ∧ ∀ β, ¬ G β k
  dom : ∀ b y, f b = some y → b < (st 0).h.next ∨ ∃ i, i < ops.size ∧ S i ∧ (st i).h.next ≤ b ∧ b < (st (i + 1)).h.next
  d0 : ∀ b y, f b = some y → b < (st 0).h.next → f0 b = some y
  d00 : ∀ b y, f0 b = some y → b < (st 0).h.next
  fnew : ∀ b k s z, f b = some (k, s, z) → f0 b = none → w0.heap.size ≤ k ∨ ∃ b0 s0 z0, f0 b0 = some (k, s0, z0) ∧ (st ops.size).h.low ≤ b0
  old : ∀ k, k < w0.heap.size → (∀ b s z, f0 b = some (k, s, z) → b < (st ops.size).h.low) → w.heap[k]? = w0.heap[k]?
  rel : ∀ b k s z q o, f b = some (k, s, z) → Cons ops st S b q → (st q).h.get b = some o → OR w (cutF f (st q).h.next) G k s z o
  inj : ∀ b b' k s z s' z' q q', f b = some (k, s, z) → f b' = some (k, s', z') → b ≠ b' → Cons ops st S b q → Cons ops st S b' q' → ¬ (live (st q).h b ∧ live (st q').h b')
  jj : ∀ b k s z j, j < ops.size → S j → (cl j = .r ∨ cl j = .alloc) → (st j).h.next ≤ b → b < (st (j + 1)).h.next → f b = some (k, s, z) → ∀ b' s' z', b' < (st j).h.next → f b' ≠ some (k, s', z')
  tw : ∀ j oj t v, j < ops.size → S j → ops[j]? = some oj → oj.dst = some t → (st (j + 1)).tm[t]? = some v → ∃ u, a.tmps[t]? = some u ∧ VR w (cutF f (st (j + 1)).h.next) G v u
  to : ∀ t v, (∀ j oj, j < ops.size → S j → ops[j]? = some oj → oj.dst ≠ some t) → (st 0).tm[t]? = some v → ∃ u, a.tmps[t]? = some u ∧ VR w f0 G v u
  asz : a.tmps.size = (st 0).tm.length
  dfr : a.defers = ds
section
variable {ops : Array Oper} {ms : List Nat} {st : Nat → St} {dc : Nat → Dc} {cl : Nat → Cl} {w0 : World} {f0 : FM} {G0 : GM} {ds : List Deferred} {S : Nat → Prop} {a : Act}
theorem Trc.tm_len (T : Trc P cx ops ms st dc cl) : ∀ {i : Nat}, i ≤ ops.size → (st i).tm.length = (st 0).tm.length
  | 0, _ => rfl
  | i + 1, hi => by
    rw [← T.tm_len (i := i) (by omega)]
    obtain ⟨o, a, h1, h2, h3⟩ := T.step i (by omega)
    rcases h3 with ⟨_, e, _, _⟩ | ⟨_, v, h', hop, e, _⟩ <;> rw [e] <;> cases o.dst <;> simp [St.put]
theorem Trc.tm_step (T : Trc P cx ops ms st dc cl) {i t : Nat} (hi : i < ops.size) (hn : ∀ o, ops[i]? = some o → o.dst ≠ some t) : (st (i + 1)).tm[t]? = (st i).tm[t]? := by
  obtain ⟨o, a, h1, h2, h3⟩ := T.step i hi
  have hd := hn o h1
  rcases h3 with ⟨_, e, _, _⟩ | ⟨_, v, h', hop, e, _⟩ <;> rw [e] <;> cases hdd : o.dst with
    | none => rfl
    | some d =>
      rw [hdd] at hd
      have hne : d ≠ t := fun e => hd (by rw [e])
      simp [St.put, List.getElem?_set, hne]
theorem Trc.tm_same (T : Trc P cx ops ms st dc cl) {p q t : Nat} (hpq : p ≤ q) (hq : q ≤ ops.size) (hn : ∀ j o, p ≤ j → j < q → ops[j]? = some o → o.dst ≠ some t) : (st q).tm[t]? = (st p).tm[t]? := by
  induction q with
  | zero =>
    have : p = 0 := by omega
    subst this; rfl
  | succ q ih =>
    by_cases e : p = q + 1
    · subst e; rfl
    · rw [T.tm_step (by omega) fun o ho => hn q o (by omega) (by omega) ho]
      exact ih (by omega) (by omega) fun j o h1 h2 => hn j o h1 (by omega)
theorem Trc.one (T : Trc P cx ops ms st dc cl) {i j t : Nat} {oi oj : Oper} (hi : i < ops.size) (hj : j < ops.size) (h1 : ops[i]? = some oi) (h2 : ops[j]? = some oj) (d1 : oi.dst = some t) (d2 : oj.dst = some t) : i = j := by
  rcases Nat.lt_trichotomy i j with h | h | h
  · exact absurd d1 ((T.draw j hj).one oj oi i t h2 h1 h d2)
  · exact h
  · exact absurd d2 ((T.draw i hi).one oi oj j t h1 h2 h d1)
/-- what an operation that may come up now looks at -/
theorem DI.reads (T : Trc P cx ops ms st dc cl) (D : DI P ops st cl w0 f0 G0 ds S w f G a) (hS : Closed ops S) {i : Nat} (hi : i < ops.size) (hni : ¬ S i) (hr : Rdy ops S i) {o : Oper} (ho : ops[i]? = some o) :
    ReadsR w (cutF f (st i).h.next) G (readsOf ops.toList o) (st i).tm a := by
  refine ⟨by rw [D.asz, T.tm_len (i := i) (by omega)], fun t ht v hv => ?_⟩
  obtain ⟨o', m, e1, e2, _⟩ := T.step i hi
  rw [ho] at e1; cases e1
  by_cases hex : ∃ j oj, j < i ∧ ops[j]? = some oj ∧ oj.dst = some t
  · obtain ⟨j, oj, hj, hoj, hd⟩ := hex
    have hbit := (T.draw i hi).reads o oj j t m ho hoj hj hd ht e2
    have hSj : S j := (T.dep i m e2 j hbit).closed hS hr
    have hsame : (st i).tm[t]? = (st (j + 1)).tm[t]? := T.tm_same (by omega) (by omega) fun q oq h1 h2 hoq hdq => by
      have := T.one (i := q) (j := j) (by omega) (by omega) hoq hoj hdq hd
      omega
    rw [hsame] at hv
    obtain ⟨u, hu, hvr⟩ := D.tw j oj t v (by omega) hSj hoj hd hv
    exact ⟨u, hu, VR.mono v (cutF_mono (FLe.refl _) (T.mono' (by omega) (by omega))) (GLe.refl _) (GKept.refl _ _) hvr⟩
  · have hsame : (st i).tm[t]? = (st 0).tm[t]? := T.tm_same (by omega) (by omega) fun q oq h1 h2 hoq hdq => hex ⟨q, oq, h2, hoq, hdq⟩
    rw [hsame] at hv
    obtain ⟨u, hu, hvr⟩ := D.to t v (fun j oj hj hSj hoj hd => by
      have hij : i < j := by
        rcases Nat.lt_trichotomy i j with h | h | h
        · exact h
        · subst h; exact absurd hSj hni
        · exact absurd ⟨j, oj, h, hoj, hd⟩ hex
      obtain ⟨o', m', e1', e2', _⟩ := T.step j hj
      rw [hoj] at e1'; cases e1'
      have hbit := (T.draw j hj).anti oj o i t m' hoj ho hij hd ht e2'
      exact hni ((T.dep j m' e2' i hbit).closed hS fun o e g1 g2 g3 => hS j o e hSj g1 g2 g3)) hv
    refine ⟨u, hu, VR.mono v (fun b y e => ?_) (GLe.refl _) (GKept.refl _ _) hvr⟩
    have := D.d00 b y e
    have hm := T.mono' (i := 0) (j := i) (by omega) (by omega)
    simp only [cutF]
    rw [if_pos (by omega)]
    exact D.fle b y e
theorem DI.born (T : Trc P cx ops ms st dc cl) (D : DI P ops st cl w0 f0 G0 ds S w f G a) {b j : Nat} {y : Nat × Nat × Nat} (hf : f b = some y) (hj : j < ops.size) (h1 : (st j).h.next ≤ b) (h2 : b < (st (j + 1)).h.next) : S j := by
  rcases D.dom b y hf with h | ⟨i, hi, hs, h3, h4⟩
  · have := T.mono' (i := 0) (j := j) (by omega) (by omega); omega
  · have : i = j := by
      rcases Nat.lt_trichotomy i j with h | h | h
      · have := T.mono' (i := i + 1) (j := j) (by omega) (by omega); omega
      · exact h
      · have := T.mono' (i := j + 1) (j := i) (by omega) (by omega); omega
    exact this ▸ hs
/-- an operation that looks at any block, or writes, finds each as the walk found it -/
theorem DI.cons (T : Trc P cx ops ms st dc cl) (D : DI P ops st cl w0 f0 G0 ds S w f G a) (hS : Closed ops S) {i : Nat} (hi : i < ops.size) (hni : ¬ S i) (hr : Rdy ops S i) (hc : (∃ t, cl i = .w t) ∨ cl i = .r ∨ cl i = .o) {b : Nat} {y : Nat × Nat × Nat} (hf : f b = some y) (hb : b < (st i).h.next) : Cons ops st S b i := by
  refine ⟨by omega, hb, fun j hj hs ht => ?_, fun j hj hs ht => ?_⟩
  · apply Classical.byContradiction
    intro hge
    have hij : i < j := by
      rcases Nat.lt_trichotomy i j with h | h | h
      · exact h
      · subst h; exact absurd hs hni
      · exact absurd h hge
    have hp := T.late hS hni hs hij hj
    have htt := T.touch hj ht
    have hm := T.mono' (i := i) (j := j) (by omega) (by omega)
    cases hcj : cl j <;> rw [hcj] at htt hp
    · exact htt
    · exact htt
    · simp only at htt; omega
    · rcases hc with ⟨t, hc⟩ | hc | hc <;> rw [hc] at hp <;> exact hp
    · simp only at htt; omega
    · rcases hc with ⟨t, hc⟩ | hc | hc <;> rw [hc] at hp <;> exact hp
  · apply Classical.byContradiction
    intro hlt
    have hji : j < i := by omega
    have hp := T.early hS hr hs hji hi
    have htt := T.touch hj ht
    cases hcj : cl j <;> rw [hcj] at htt hp
    · exact htt
    · exact htt
    · exact hs (D.born T hf hj htt.1 htt.2)
    · rcases hc with ⟨t, hc⟩ | hc | hc <;> rw [hc] at hp <;> exact hp
    · exact hs (D.born T hf hj htt.1 htt.2)
    · rcases hc with ⟨t, hc⟩ | hc | hc <;> rw [hc] at hp <;> exact hp
end
end Go.Ev
end

section
set_option linter.unusedVariables false
set_option linter.unusedSimpArgs false
namespace Go.Ev
variable {P : Program} {cx : Cx} {w : World} {f : FM} {G : GM} {h : Hp}
theorem opI_of (hc : TyOk P cx) {ops : List Oper} {tm : List V} {h h' : Hp} {o : Oper} {v : V} (hcl : isCall o.op = false) (hv : opP cx ⟨tm, h⟩ o.op = some (v, h')) : OpI P cx ops o tm h v h' := by
  have hsame : Same tm (maskT (readsOf ops o) tm) o.op.operands := maskT_same
  have hn : noSelect o.op = true := by cases hop : o.op <;> first | rfl | (rw [hop] at hv; cases hv)
  refine ⟨opP_keep hv, fun r m w f G a i ha => ?_, fun _ => hv, fun c b h1 _ => (by rw [h1] at hcl; exact absurd hcl (by simp [isCall]))⟩
  rw [opP_congr hsame] at hv
  have := OpR.upon (P := P) (r := r) (n := m) (opP_ok hc (a := maskA (readsOf ops o) a) i ha.mask hv)
  rw [← Oper.semAt_none, semAt_congr none hn maskA_eval] at this
  have e2 : o.semAt r a.eval = o.semAt none a.eval := by
    have hd : ∀ c, o.op ≠ .defer c := fun c e => by rw [e] at hn; cases hn
    rw [Oper.semAt_eq _ _ _ hd, Oper.semAt_eq _ _ _ hd]
  rw [e2]; exact this
section
variable {ops : Array Oper} {ms : List Nat} {st : Nat → St} {dc : Nat → Dc} {cl : Nat → Cl} {w0 : World} {f0 : FM} {G0 : GM} {ds : List Deferred} {S : Nat → Prop} {a : Act}
theorem DI.consLoad (T : Trc P cx ops ms st dc cl) (D : DI P ops st cl w0 f0 G0 ds S w f G a) (hS : Closed ops S) {i : Nat} (hi : i < ops.size) (hni : ¬ S i) (hr : Rdy ops S i) {b : Nat} (hc : cl i = .load b) {y : Nat × Nat × Nat} (hf : f b = some y) (hb : b < (st i).h.next) : Cons ops st S b i := by
  refine ⟨by omega, hb, fun j hj hs ht => ?_, fun j hj hs ht => ?_⟩
  · apply Classical.byContradiction
    intro hge
    have hij : i < j := by
      rcases Nat.lt_trichotomy i j with h | h | h
      · exact h
      · subst h; exact absurd hs hni
      · exact absurd h hge
    have hp := T.late hS hni hs hij hj
    have htt := T.touch hj ht
    have hm := T.mono' (i := i) (j := j) (by omega) (by omega)
    rw [hc] at hp
    cases hcj : cl j <;> rw [hcj] at htt hp
    · exact htt
    · exact htt
    · simp only at htt; omega
    · simp only at htt
      rcases htt with ⟨rfl, _⟩ | htt
      · exact hp rfl
      · omega
    · simp only at htt; omega
    · exact hp
  · apply Classical.byContradiction
    intro hlt
    have hji : j < i := by omega
    have hp := T.early hS hr hs hji hi
    have htt := T.touch hj ht
    rw [hc] at hp
    cases hcj : cl j <;> rw [hcj] at htt hp
    · exact htt
    · exact htt
    · exact hs (D.born T hf hj htt.1 htt.2)
    · simp only at htt
      rcases htt with ⟨rfl, _⟩ | htt
      · exact hp rfl
      · exact hs (D.born T hf hj htt.1 htt.2)
    · exact hs (D.born T hf hj htt.1 htt.2)
    · exact hp
/-- A heap of which as much is known as the walk's, at the blocks that it holds. -/
theorem DI.inv (D : DI P ops st cl w0 f0 G0 ds S w f G a) {i : Nat} (hs : Hp) (hn : hs.next = (st i).h.next)
    (hg : ∀ b o, hs.get b = some o → ∀ y, f b = some y → b < (st i).h.next → Cons ops st S b i ∧ (st i).h.get b = some o) : Inv w (cutF f (st i).h.next) G hs := by
  refine ⟨fun b y e => ?_, fun b k s z e => D.rng b k s z (cutF_some e).2, fun b b' k s z s' z' e e' hne => ?_, D.gin, D.gup, fun b k s z o e hgo => ?_⟩
  · rw [hn]; exact (cutF_some e).1
  · rintro ⟨⟨o1, l1, m1⟩, ⟨o2, l2, m2⟩⟩
    obtain ⟨b1, b2⟩ := cutF_some e
    obtain ⟨b3, b4⟩ := cutF_some e'
    obtain ⟨c1, g1⟩ := hg b o1 l1 _ b2 b1
    obtain ⟨c2, g2⟩ := hg b' o2 l2 _ b4 b3
    exact D.inj b b' k s z s' z' i i b2 b4 hne c1 c2 ⟨⟨o1, g1, m1⟩, ⟨o2, g2, m2⟩⟩
  · obtain ⟨b1, b2⟩ := cutF_some e
    obtain ⟨c1, g1⟩ := hg b o hgo _ b2 b1
    exact D.rel b k s z i o b2 c1 g1
/-- Where an operation is carried out, and what it leaves. -/
structure Exec (P : Program) (cx : Cx) (ops : Array Oper) (st : Nat → St) (cl : Nat → Cl) (i : Nat) (o : Oper) (w : World) (f : FM) (G : GM) (v : V) (hs hs' : Hp) : Prop where
  n1 : hs.next = (st i).h.next
  l1 : hs.low = (st i).h.next
  n2 : hs'.next = (st (i + 1)).h.next
  l2 : (st (i + 1)).h.low ≤ hs'.low
  born : ∀ b, (st i).h.next ≤ b → b < (st (i + 1)).h.next → hs'.get b = (st (i + 1)).h.get b
  op : wanted ops.toList (st i).tm o = true → OpI P cx ops.toList o (st i).tm hs v hs'
  inv : Inv w (cutF f (st i).h.next) G hs
  st1 : st (i + 1) = St.put ⟨(st i).tm, (st (i + 1)).h⟩ o.dst v
  kind : (((∃ t, cl i = .w t) ∨ cl i = .r ∨ cl i = .o) ∧ (∀ b, hs.get b = (st i).h.get b) ∧ ∀ b, hs'.get b = (st (i + 1)).h.get b) ∨
    ((cl i = .free ∨ (∃ b, cl i = .load b) ∨ cl i = .alloc) ∧ hs'.low = (st i).h.next)
  rlow : cl i = .r → (st i).h.next ≤ hs'.low
theorem DI.exec (hcx : TyOk P cx) (T : Trc P cx ops ms st dc cl) (D : DI P ops st cl w0 f0 G0 ds S w f G a) (hS : Closed ops S) {i : Nat} (hi : i < ops.size) (hni : ¬ S i) (hr : Rdy ops S i) {o : Oper} (ho : ops[i]? = some o) (hw : wanted ops.toList (st i).tm o = true) :
    ∃ v hs hs', Exec P cx ops st cl i o w f G v hs hs' := by
  obtain ⟨o', m, e1, e2, hst⟩ := T.step i hi
  rw [ho] at e1; cases e1
  rcases hst with ⟨hw', _⟩ | ⟨_, v, h', hop, e, hcl⟩
  · rw [hw] at hw'; cases hw'
  have hh : (st (i + 1)).h = ⟨h'.tr, h'.next, min (st i).h.low h'.low⟩ := by rw [e, stput_h]
  have hst1 : st (i + 1) = St.put ⟨(st i).tm, (st (i + 1)).h⟩ o.dst v := by rw [hh]; exact e
  have hlow : (st (i + 1)).h.low ≤ h'.low := by rw [hh]; exact Nat.min_le_right _ _
  have hlown : (st (i + 1)).h.low ≤ (st i).h.next := Nat.le_trans hlow hop.keep.2.2.1
  have nil : Inv w (cutF f (st i).h.next) G ⟨.nil, (st i).h.next, (st i).h.next⟩ := D.inv ⟨.nil, (st i).h.next, (st i).h.next⟩ rfl fun b o hb => by cases hb
  have full : ((∃ t, cl i = .w t) ∨ cl i = .r ∨ cl i = .o) → (cl i = .r → (st i).h.next ≤ h'.low) → ∃ v hs hs', Exec P cx ops st cl i o w f G v hs hs' := fun hc hrl =>
    ⟨v, ⟨(st i).h.tr, (st i).h.next, (st i).h.next⟩, h', rfl, rfl, by rw [hh], hlow, fun b _ _ => by rw [hh]; rfl, fun _ => hop,
      D.inv ⟨(st i).h.tr, (st i).h.next, (st i).h.next⟩ rfl fun b o hb y hf hlt => ⟨D.cons T hS hi hni hr hc hf hlt, hb⟩, hst1, .inl ⟨hc, fun b => rfl, fun b => by rw [hh]; rfl⟩, hrl⟩
  cases hc : cl i with
  | w t => exact full (.inl ⟨t, hc⟩) fun h => by rw [hc] at h; cases h
  | r => rw [hc] at hcl; exact full (.inr (.inl hc)) fun _ => hcl.1
  | o => exact full (.inr (.inr hc)) fun h => by rw [hc] at h; cases h
  | free =>
    rw [hc] at hcl
    have hnc : isCall o.op = false := by have := hcl.1; cases hop' : o.op <;> rw [hop'] at this <;> first | rfl | cases this
    obtain ⟨q1, q2⟩ := free_same hcl.1 (hop.eq hnc)
    refine ⟨v, ⟨.nil, (st i).h.next, (st i).h.next⟩, ⟨.nil, (st i).h.next, (st i).h.next⟩, rfl, rfl, by rw [hh, q1], hlown, fun b h1 h2 => ?_, fun _ => opI_of hcx hnc (q2 _), nil, hst1, .inr ⟨.inl hc, rfl⟩, fun h => by rw [hc] at h; cases h⟩
    rw [hh, q1] at h2
    exact absurd h2 (by simp only; omega)
  | load b0 =>
    rw [hc] at hcl
    have hnc := kind_nocall (.inl ⟨_, hcl.1⟩)
    have he := hop.eq hnc
    have hk := hcl.1
    have hok := hcl.2.1
    simp only [okD, Bool.and_eq_true] at hok
    have hb0 : b0 < (st i).h.next := Eq.mp Nat.blt_eq hok.1.1
    cases hop' : o.op <;> rw [hop'] at hk <;> simp only [kindD] at hk
    case load t ad =>
      rw [hop'] at he
      obtain ⟨q1, q2⟩ := load_same he
      have hbk : blk (ev (st i).tm ad) = some b0 := by
        split at hk
        · rename_i b hb; cases hk; exact hb
        · cases hk
      have go : ∀ hs : Hp, hs.next = (st i).h.next → hs.low = (st i).h.next → hs.get b0 = (st i).h.get b0 → Inv w (cutF f (st i).h.next) G hs → ∃ v hs hs', Exec P cx ops st cl i o w f G v hs hs' := fun hs n1 l1 g1 iv => by
        refine ⟨v, hs, hs, n1, l1, by rw [n1, hh, q1], by rw [l1]; exact hlown, fun b h1 h2 => ?_, fun _ => opI_of hcx hnc (by rw [hop']; exact q2 hs fun b hb => by rw [hbk] at hb; cases hb; exact g1), iv, hst1, .inr ⟨.inr (.inl ⟨_, hc⟩), l1⟩, fun h => by rw [hc] at h; cases h⟩
        rw [hh, q1] at h2
        exact absurd h2 (by simp only; omega)
      cases hg : (st i).h.get b0 with
      | none => exact go ⟨.nil, (st i).h.next, (st i).h.next⟩ rfl rfl (by rw [hg]; rfl) nil
      | some ob =>
        have hget : ∀ b, (⟨(Tr.nil : Tr Ob).set b0 ob, (st i).h.next, (st i).h.next⟩ : Hp).get b = if b = b0 then some ob else none := fun b => by
          show ((Tr.nil : Tr Ob).set b0 ob).get b = _
          rw [Tr.get_set, Tr.get_nil]
        refine go ⟨(Tr.nil : Tr Ob).set b0 ob, (st i).h.next, (st i).h.next⟩ rfl rfl (by rw [hget, if_pos rfl, hg]) (D.inv _ rfl fun b o2 hb y hf hlt => ?_)
        rw [hget] at hb
        split at hb
        · rename_i eb
          cases hb
          subst eb
          exact ⟨D.consLoad T hS hi hni hr hc hf hlt, hg⟩
        · cases hb
    case store => split at hk <;> cases hk
    case call => rw [hop'] at hnc; exact absurd hnc (by simp [isCall])
    all_goals cases hk
  | alloc =>
    rw [hc] at hcl
    have hnc := kind_nocall (.inr hcl.1)
    rcases alloc_same rfl hcl.1 (hop.eq hnc) with ⟨q1, q2⟩ | ⟨o', q1, q2⟩
    · refine ⟨v, ⟨.nil, (st i).h.next, (st i).h.next⟩, ⟨.nil, (st i).h.next, (st i).h.next⟩, rfl, rfl, by rw [hh, q1], hlown, fun b h1 h2 => ?_, fun _ => opI_of hcx hnc (q2 _), nil, hst1, .inr ⟨.inr (.inr hc), rfl⟩, fun h => by rw [hc] at h; cases h⟩
      rw [hh, q1] at h2
      exact absurd h2 (by simp only; omega)
    · refine ⟨v, ⟨.nil, (st i).h.next, (st i).h.next⟩, (⟨.nil, (st i).h.next, (st i).h.next⟩ : Hp).add o', rfl, rfl, by rw [hh, q1]; rfl, hlown, fun b h1 h2 => ?_, fun _ => opI_of hcx hnc (q2 _ rfl), nil, hst1, .inr ⟨.inr (.inr hc), rfl⟩, fun h => by rw [hc] at h; cases h⟩
      have hb : b = (st i).h.next := by rw [hh, q1] at h2; simp only [Hp.next_add] at h2; omega
      have e1 : (st (i + 1)).h.get b = h'.get b := by rw [hh]; rfl
      rw [e1, q1, Hp.get_add, Hp.get_add, if_pos hb, if_pos hb]
end
end Go.Ev
end

section
set_option linter.unusedVariables false
set_option linter.unusedSimpArgs false
namespace Go.Ev
variable {P : Program} {cx : Cx} {w : World} {f : FM} {G : GM} {h : Hp}
theorem cutF_of {f f2 : FM} {n b : Nat} {y y2 : Nat × Nat × Nat} (e : cutF f n b = some y) (e2 : f2 b = some y2) : cutF f2 n b = some y2 := by
  have := (cutF_some e).1
  simp only [cutF]
  rw [if_pos this]; exact e2
mutual
theorem VR.cutB {w w' : World} {f f2 : FM} {G G2 : GM} {n : Nat} : ∀ (v : V) {u u' : Value}, VR w (cutF f n) G v u → VR w' f2 G2 v u' → VR w' (cutF f2 n) G2 v u'
  | .bool _, _, _, _, h2 => by simpa [VR] using h2
  | .int _ _, _, _, _, h2 => by simpa [VR] using h2
  | .flt _ _, _, _, _, h2 => by simpa [VR] using h2
  | .str _, _, _, _, h2 => by simpa [VR] using h2
  | .pnil, _, _, _, h2 => by simpa [VR] using h2
  | .ptr b i j, _, _, h1, h2 => by
    simp only [VR] at h1 h2 ⊢
    obtain ⟨_, _, _, e1, _⟩ := h1
    obtain ⟨k, s, z, e2, hx⟩ := h2
    exact ⟨k, s, z, cutF_of e1 e2, hx⟩
  | .ipt _ _ _, _, _, _, h2 => by simpa only [VR] using h2
  | .snil, _, _, _, h2 => by simpa [VR] using h2
  | .sl _ _ _ _ _, _, _, h1, h2 => by
    simp only [VR] at h1 h2 ⊢
    obtain ⟨_, _, _, _, e1, _⟩ := h1
    obtain ⟨k, s, c', a, e2, hx⟩ := h2
    exact ⟨k, s, c', a, cutF_of e1 e2, hx⟩
  | .imm _ _ _ _, _, _, _, h2 => by simpa only [VR] using h2
  | .mnil, _, _, _, h2 => by simpa [VR] using h2
  | .map _, _, _, h1, h2 => by
    simp only [VR] at h1 h2 ⊢
    obtain ⟨_, _, _, e1, _⟩ := h1
    obtain ⟨k, s, z, e2, hx⟩ := h2
    exact ⟨k, s, z, cutF_of e1 e2, hx⟩
  | .fn _ a c, _, _, h1, h2 => by
    simp only [VR] at h1 h2 ⊢
    obtain ⟨_, _, _, _, _, p1, p2⟩ := h1
    obtain ⟨a', c', hx, q1, q2, q3, q4⟩ := h2
    exact ⟨a', c', hx, q1, q2, VRs.cutB a p1 q3, VRs.cutB c p2 q4⟩
  | .yld _, _, _, h1, h2 => by
    simp only [VR] at h1 h2 ⊢
    obtain ⟨_, _, _, e1, _⟩ := h1
    obtain ⟨k, s, z, e2, hx⟩ := h2
    exact ⟨k, s, z, cutF_of e1 e2, hx⟩
  | .fnil, _, _, _, h2 => by simpa [VR] using h2
  | .ifc _ v, _, _, h1, h2 => by
    simp only [VR] at h1 h2 ⊢
    obtain ⟨_, _, p1⟩ := h1
    obtain ⟨u, hx, q1⟩ := h2
    exact ⟨u, hx, VR.cutB v p1 q1⟩
  | .inil, _, _, _, h2 => by simpa [VR] using h2
  | .agg cs, _, _, h1, h2 => by
    simp only [VR] at h1 h2 ⊢
    obtain ⟨_, _, _, _, p1⟩ := h1
    obtain ⟨c', hx, q1, q2, q3⟩ := h2
    exact ⟨c', hx, q1, q2, VRs.cutB cs p1 q3⟩
  | .any, _, _, _, h2 => by simpa only [VR] using h2
  | .tup vs, _, _, h1, h2 => by
    simp only [VR] at h1 h2 ⊢
    obtain ⟨_, _, _, p1⟩ := h1
    obtain ⟨c', hx, q1, q3⟩ := h2
    exact ⟨c', hx, q1, VRs.cutB vs p1 q3⟩
theorem VRs.cutB {w w' : World} {f f2 : FM} {G G2 : GM} {n : Nat} : ∀ (vs : List V) {g g' : Nat → Option Value}, VRs w (cutF f n) G vs g → VRs w' f2 G2 vs g' → VRs w' (cutF f2 n) G2 vs g'
  | [], _, _, _, _ => by simp [VRs]
  | v :: vs, _, _, h1, h2 => by
    simp only [VRs] at h1 h2 ⊢
    obtain ⟨⟨_, _, p1⟩, p2⟩ := h1
    obtain ⟨⟨u, e, q1⟩, q2⟩ := h2
    exact ⟨⟨u, e, VR.cutB v p1 q1⟩, VRs.cutB vs p2 q2⟩
end
theorem VRr.cutB {w w' : World} {f f2 : FM} {G G2 : GM} {n z : Nat} {rows : List (List V)} {g g' : Nat → Option Value} (h1 : VRr w (cutF f n) G z rows g) (h2 : VRr w' f2 G2 z rows g') : VRr w' (cutF f2 n) G2 z rows g' :=
  VRr_iff.2 fun i r hi => by
    obtain ⟨_, _, p⟩ := VRr_iff.1 h1 i r hi
    obtain ⟨q1, q2, q3⟩ := VRr_iff.1 h2 i r hi
    exact ⟨q1, q2, VRs.cutB r p q3⟩
theorem ME.cutB {w w' : World} {f f2 : FM} {G G2 : GM} {n : Nat} : ∀ {l : List (V × V)} {r r' : List MapEntry}, ME w (cutF f n) G l r → ME w' f2 G2 l r' → ME w' (cutF f2 n) G2 l r'
  | [], [], [], _, _ => trivial
  | (k, v) :: l, e :: r, e' :: r', h1, h2 => ⟨VR.cutB k h1.1 h2.1, VR.cutB v h1.2.1 h2.2.1, ME.cutB h1.2.2 h2.2.2⟩
  | [], _ :: _, _, h, _ => h.elim
  | [], [], _ :: _, _, h => h.elim
  | (_, _) :: _, [], _, h, _ => h.elim
  | (_, _) :: _, _ :: _, [], _, h => h.elim
theorem OR.cutB {w w' : World} {f f2 : FM} {G G2 : GM} {n k s z : Nat} : ∀ {o : Ob}, OR w (cutF f n) G k s z o → OR w' f2 G2 k s z o → OR w' (cutF f2 n) G2 k s z o
  | .cells rows z', h1, h2 => by
    obtain ⟨_, _, _, _, _, _, p⟩ := h1
    obtain ⟨q1, cc, e, fr, q2, q3, q4⟩ := h2
    exact ⟨q1, cc, e, fr, q2, q3, VRr.cutB p q4⟩
  | .map es, h1, h2 => by
    obtain ⟨_, _, _, p⟩ := h1
    obtain ⟨es', c, q1, q2⟩ := h2
    exact ⟨es', c, q1, ME.cutB p q2⟩
  | .loop l, h1, h2 => by
    obtain ⟨_, _, _, _, _, p, _⟩ := h1
    obtain ⟨l', q1, q2, q3, q4, q5, q6⟩ := h2
    exact ⟨l', q1, q2, q3, q4, VRs.cutB _ p q5, q6⟩
  | .dead, _, _ => trivial
end Go.Ev
end

section
set_option linter.unusedVariables false
set_option linter.unusedSimpArgs false
namespace Go.Ev
variable {P : Program} {cx : Cx} {w : World} {f : FM} {G : GM} {h : Hp}
theorem act_put_ne {a : Act} {d : Option Nat} {x : Value} {t : Nat} (hd : d ≠ some t) : (a.put d x).tmps[t]? = a.tmps[t]? := by
  cases d with
  | none => rfl
  | some d =>
    have : d ≠ t := fun e => hd (by rw [e])
    simp [Act.put, Array.getElem?_setIfInBounds, this]
theorem act_put_eq {a : Act} {x : Value} {t : Nat} (h : t < a.tmps.size) : (a.put (some t) x).tmps[t]? = some x := by
  simp [Act.put, Array.getElem?_setIfInBounds, h]
theorem act_put_size {a : Act} {d : Option Nat} {x : Value} : (a.put d x).tmps.size = a.tmps.size := by cases d <;> simp [Act.put]
section
variable {ops : Array Oper} {ms : List Nat} {st : Nat → St} {dc : Nat → Dc} {cl : Nat → Cl} {w0 : World} {f0 : FM} {G0 : GM} {ds : List Deferred} {S : Nat → Prop} {a : Act}
/-- the temporaries, when operation i has put its value -/
theorem DI.temps (T : Trc P cx ops ms st dc cl) (D : DI P ops st cl w0 f0 G0 ds S w f G a) {i : Nat} (hi : i < ops.size) {o : Oper} (ho : ops[i]? = some o) {v : V} {hx : Hp} (hst : st (i + 1) = St.put ⟨(st i).tm, hx⟩ o.dst v) {w' : World} {f' : FM} {G' : GM} {x : Value}
    (hf : FLe f f') (hG : GLe G G') (hw : GKept G w w') (hv : VR w' (cutF f' (st (i + 1)).h.next) G' v x) :
    (∀ j oj t v, j < ops.size → (S j ∨ j = i) → ops[j]? = some oj → oj.dst = some t → (st (j + 1)).tm[t]? = some v → ∃ u, (a.put o.dst x).tmps[t]? = some u ∧ VR w' (cutF f' (st (j + 1)).h.next) G' v u) ∧
    (∀ t v, (∀ j oj, j < ops.size → (S j ∨ j = i) → ops[j]? = some oj → oj.dst ≠ some t) → (st 0).tm[t]? = some v → ∃ u, (a.put o.dst x).tmps[t]? = some u ∧ VR w' f0 G' v u) := by
  refine ⟨fun j oj t v1 hj hs hoj hd hv1 => ?_, fun t v1 hn hv1 => ?_⟩
  · by_cases e : j = i
    · subst e
      rw [ho] at hoj; cases hoj
      rw [hst, hd] at hv1
      simp only [St.put, List.getElem?_set] at hv1
      split at hv1
      · split at hv1
        · rename_i hlt
          cases hv1
          rw [hd]
          exact ⟨x, act_put_eq (by rw [D.asz, ← T.tm_len (i := j) (by omega)]; exact hlt), hv⟩
        · cases hv1
      · rename_i hne; exact absurd trivial hne
    · have hSj := hs.resolve_right e
      obtain ⟨u, hu, hr⟩ := D.tw j oj t v1 hj hSj hoj hd hv1
      refine ⟨u, ?_, VR.mono v1 (cutF_mono hf (Nat.le_refl _)) hG hw hr⟩
      rw [act_put_ne fun e2 => e (T.one hj hi hoj ho hd e2)]
      exact hu
  · obtain ⟨u, hu, hr⟩ := D.to t v1 (fun j oj hj hs hoj => hn j oj hj (.inl hs) hoj) hv1
    refine ⟨u, ?_, VR.mono v1 (FLe.refl _) hG hw hr⟩
    rw [act_put_ne (hn i o hi (.inr rfl) ho)]
    exact hu
end
end Go.Ev
end

section
set_option linter.unusedVariables false
set_option linter.unusedSimpArgs false
namespace Go.Ev
variable {P : Program} {cx : Cx} {w : World} {f : FM} {G : GM} {h : Hp}
section
variable {ops : Array Oper} {ms : List Nat} {st : Nat → St} {dc : Nat → Dc} {cl : Nat → Cl} {w0 : World} {f0 : FM} {G0 : GM} {ds : List Deferred} {S : Nat → Prop} {a : Act}
/-- what is born by i no later operation that has come up before it touches -/
theorem Trc.bornOnly (T : Trc P cx ops ms st dc cl) (hS : Closed ops S) {i j b : Nat} (hi : i < ops.size) (hni : ¬ S i) (hj : j < ops.size) (hs : S j) (hij : i < j) (h1 : (st i).h.next ≤ b) (h2 : b < (st (i + 1)).h.next) : ¬ Tch st j b := by
  intro ht
  have hp := T.late hS hni hs hij hj
  have htt := T.touch hj ht
  have hti := T.touch hi (.inl ⟨h1, h2⟩)
  have hm := T.mono' (i := i + 1) (j := j) (by omega) (by omega)
  cases hcj : cl j <;> rw [hcj] at htt hp
  · exact htt
  · exact htt
  · simp only at htt; omega
  · simp only at htt
    rcases htt with ⟨rfl, _⟩ | htt
    · cases hci : cl i <;> rw [hci] at hp hti
      · exact hti
      · exact hti
      · exact hp ⟨h1, h2⟩
      · exact hp
      · exact hp
      · exact hp
    · omega
  · simp only at htt; omega
  · cases hci : cl i <;> rw [hci] at hp hti
    · exact hti
    · exact hti
    all_goals exact hp
theorem cons_less {i b q : Nat} (hni : ¬ S i) (ht : ¬ Tch st i b) (c : Cons ops st (fun j => S j ∨ j = i) b q) : Cons ops st S b q :=
  ⟨c.le, c.lt, fun j hj hs => c.did j hj (.inl hs), fun j hj hs htj => by
    by_cases e : j = i
    · subst e; exact absurd htj ht
    · exact c.not j hj (fun h => h.elim hs e) htj⟩
theorem DI.next (T : Trc P cx ops ms st dc cl) (D : DI P ops st cl w0 f0 G0 ds S w f G a) (hS : Closed ops S) {i : Nat} (hi : i < ops.size) (hni : ¬ S i) (hr : Rdy ops S i) {o : Oper} (ho : ops[i]? = some o) {v : V} {hs hs' : Hp}
    (X : Exec P cx ops st cl i o w f G v hs hs') {x : Value} {w' : World} {f2 : FM} {G2 : GM} (R : Stp w (cutF f (st i).h.next) G hs w' f2 G2 hs') (I2 : Inv w' f2 G2 hs') (vr : VR w' f2 G2 v x) :
    ∃ f', DI P ops st cl w0 f0 G0 ds (fun j => S j ∨ j = i) w' f' G2 (a.put o.dst x) := by
  have hGK := R.gkept X.inv
  have hA : ∀ b, (st i).h.next ≤ b → b < (st (i + 1)).h.next → f b = none := fun b h1 h2 => by
    cases e : f b with
    | none => rfl
    | some y => exact absurd (D.born T e hi h1 h2) hni
  obtain ⟨f', hf'⟩ : ∃ f' : FM, f' = fun b => if (st i).h.next ≤ b ∧ b < (st (i + 1)).h.next then f2 b else f b := ⟨_, rfl⟩
  have hnew : ∀ b, (st i).h.next ≤ b → b < (st (i + 1)).h.next → f' b = f2 b := fun b h1 h2 => by rw [hf']; exact if_pos ⟨h1, h2⟩
  have hold : ∀ b, ¬ ((st i).h.next ≤ b ∧ b < (st (i + 1)).h.next) → f' b = f b := fun b h1 => by rw [hf']; exact if_neg h1
  have hB : FLe f f' := fun b y e => by
    rw [hold b fun ⟨h1, h2⟩ => by rw [hA b h1 h2] at e; cases e]; exact e
  have hC : ∀ b y, f2 b = some y → b < (st i).h.next → f b = some y := fun b y e hb => by
    cases e0 : cutF f (st i).h.next b with
    | some y' =>
      have := R.fle b y' e0
      rw [e] at this; cases this
      exact (cutF_some e0).2
    | none =>
      obtain ⟨k, s, z⟩ := y
      have := (R.fnew b k s z e e0).1
      rw [X.n1] at this; omega
  have hD : ∀ b y, f2 b = some y → b < (st (i + 1)).h.next := fun b y e => by have := I2.dom b y e; rwa [X.n2] at this
  have hE : FLe f2 (cutF f' (st (i + 1)).h.next) := fun b y e => by
    have hb := hD b y e
    simp only [cutF, if_pos hb]
    by_cases h1 : (st i).h.next ≤ b
    · rw [hnew b h1 hb]; exact e
    · rw [hold b fun hh => h1 hh.1]; exact hC b y e (by omega)
  have hlowN : (st ops.size).h.low ≤ hs'.low := Nat.le_trans (T.low' (i := i + 1) (by omega) (by omega)) X.l2
  have hmi := T.mono hi
  -- classes that leave the old memory as it is
  have hkeep : (cl i = .r ∨ cl i = .free ∨ (∃ b, cl i = .load b) ∨ cl i = .alloc) → ∀ k, k < w.heap.size → w'.heap[k]? = w.heap[k]? := fun hc k hk => by
    refine R.old k hk fun b s z e => ?_
    have hb := (cutF_some e).1
    rcases hc with hc | hc
    · have := X.rlow hc; omega
    · rcases X.kind with ⟨hk2, _⟩ | ⟨_, hk2⟩
      · rcases hk2 with ⟨t, e1⟩ | e1 | e1 <;> rw [e1] at hc <;> rcases hc with hc | ⟨_, hc⟩ | hc <;> cases hc
      · omega
  have hquiet : (cl i = .r ∨ cl i = .free ∨ (∃ b, cl i = .load b) ∨ cl i = .alloc) → ∀ b, ¬ ((st i).h.next ≤ b ∧ b < (st (i + 1)).h.next) → ¬ Tch st i b := fun hc b hb ht => by
    have htt := T.touch hi ht
    rcases hc with hc | hc | ⟨_, hc⟩ | hc <;> rw [hc] at htt
    · exact hb htt
    · exact htt
    · exact htt
    · exact hb htt
  have hcls : (cl i = .r ∨ cl i = .free ∨ (∃ b, cl i = .load b) ∨ cl i = .alloc) ∨ (((∃ t, cl i = .w t) ∨ cl i = .o) ∧ (∀ b, hs.get b = (st i).h.get b) ∧ ∀ b, hs'.get b = (st (i + 1)).h.get b) := by
    rcases X.kind with ⟨h1 | h1 | h1, h2⟩ | ⟨h1, _⟩
    · exact .inr ⟨.inl h1, h2⟩
    · exact .inl (.inl h1)
    · exact .inr ⟨.inr h1, h2⟩
    · exact .inl (.inr h1)
  -- a block that lies beyond op i's own, for the classes w, o
  have hfloat : ((∃ t, cl i = .w t) ∨ cl i = .o) → ∀ b k s z, f b = some (k, s, z) → (st (i + 1)).h.next ≤ b → ∃ j, j < ops.size ∧ S j ∧ (cl j = .r ∨ cl j = .alloc) ∧ (st j).h.next ≤ b ∧ b < (st (j + 1)).h.next ∧ i < j := fun hc b k s z hfb hb => by
    rcases D.dom b _ hfb with h1 | ⟨j, hj, hs, h3, h4⟩
    · have := T.mono' (i := 0) (j := i) (by omega) (by omega); omega
    · have hij : i < j := by
        rcases Nat.lt_trichotomy i j with h | h | h
        · exact h
        · subst h; exact absurd hs hni
        · have := T.mono' (i := j + 1) (j := i) (by omega) (by omega); omega
      have hp := T.late hS hni hs hij hj
      have htt := T.touch hj (.inl ⟨h3, h4⟩)
      refine ⟨j, hj, hs, ?_, h3, h4, hij⟩
      cases hcj : cl j <;> rw [hcj] at htt hp
      · exact htt.elim
      · exact htt.elim
      · exact .inr rfl
      · rcases hc with ⟨t, hc⟩ | hc <;> rw [hc] at hp <;> exact hp.elim
      · exact .inl rfl
      · rcases hc with ⟨t, hc⟩ | hc <;> rw [hc] at hp <;> exact hp.elim
  have hjj' : ∀ b k s z j, j < ops.size → (S j ∨ j = i) → (cl j = .r ∨ cl j = .alloc) → (st j).h.next ≤ b → b < (st (j + 1)).h.next → f' b = some (k, s, z) → ∀ b' s' z', b' < (st j).h.next → f' b' ≠ some (k, s', z') := by
    intro b k s z j hj hsj hcj h1 h2 hfb b' s' z' hb' hfb'
    by_cases e : j = i
    · subst e
      rw [hnew b h1 h2] at hfb
      rw [hold b' fun hh => by omega] at hfb'
      have hk' := (D.rng b' k s' z' hfb').1
      have hn : cutF f (st j).h.next b = none := by
        cases e0 : cutF f (st j).h.next b with
        | none => rfl
        | some y => have := (cutF_some e0).1; omega
      obtain ⟨_, x1 | ⟨b0, s0, z0, x1, x2⟩⟩ := R.fnew b k s z hfb hn
      · omega
      · have hlow2 : (st j).h.next ≤ hs'.low := by
          rcases hcj with hcj | hcj
          · exact X.rlow hcj
          · rcases X.kind with ⟨⟨t, e1⟩ | e1 | e1, _⟩ | ⟨_, e1⟩
            · rw [hcj] at e1; cases e1
            · rw [hcj] at e1; cases e1
            · rw [hcj] at e1; cases e1
            · omega
        have := (cutF_some x1).1
        omega
    · have hSj := hsj.resolve_right e
      have hnb : ¬ ((st i).h.next ≤ b ∧ b < (st (i + 1)).h.next) := fun hh => by
        rcases Nat.lt_trichotomy i j with h | h | h
        · have := T.mono' (i := i + 1) (j := j) (by omega) (by omega); omega
        · exact e h.symm
        · have := T.mono' (i := j + 1) (j := i) (by omega) (by omega); omega
      rw [hold b hnb] at hfb
      by_cases hb2 : (st i).h.next ≤ b' ∧ b' < (st (i + 1)).h.next
      · rw [hnew b' hb2.1 hb2.2] at hfb'
        have hn : cutF f (st i).h.next b' = none := by
          cases e0 : cutF f (st i).h.next b' with
          | none => rfl
          | some y => have := (cutF_some e0).1; omega
        obtain ⟨_, x1 | ⟨b0, s0, z0, x1, x2⟩⟩ := R.fnew b' k s' z' hfb' hn
        · have := (D.rng b k s z hfb).1; omega
        · obtain ⟨y1, y2⟩ := cutF_some x1
          exact D.jj b k s z j hj hSj hcj h1 h2 hfb b0 s0 z0 (by omega) y2
      · rw [hold b' hb2] at hfb'
        exact D.jj b k s z j hj hSj hcj h1 h2 hfb b' s' z' hb' hfb'
  have hI2 : ∀ b y, b < (st (i + 1)).h.next → f' b = some y → f2 b = some y := fun b y hb e => by
    by_cases h1 : (st i).h.next ≤ b
    · rw [hnew b h1 hb] at e; exact e
    · rw [hold b fun hh => h1 hh.1] at e
      exact R.fle b y (by simp only [cutF]; rw [if_pos (by omega)]; exact e)
  -- where op i has left a block that is consistent
  have hplace : ∀ b y q, f' b = some y → b < (st (i + 1)).h.next → ((∃ t, cl i = .w t) ∨ cl i = .o ∨ (st i).h.next ≤ b) → Cons ops st (fun j => S j ∨ j = i) b q → (st q).h.get b = (st (i + 1)).h.get b := fun b y q hfb hb hcl c => by
    by_cases ht : Tch st i b
    · have hiq := c.did i hi (.inr rfl) ht
      refine T.same (by omega) c.le hb fun j h1 h2 htj => ?_
      by_cases hsj : S j
      · by_cases hb1 : (st i).h.next ≤ b
        · exact T.bornOnly hS hi hni (by have := c.le; omega) hsj (by omega) hb1 hb htj
        · have hfb0 : f b = some y := by rw [hold b fun hh => hb1 hh.1] at hfb; exact hfb
          have hcc : (∃ t, cl i = .w t) ∨ cl i = .r ∨ cl i = .o := by
            rcases hcl with h | h | h
            · exact .inl h
            · exact .inr (.inr h)
            · exact absurd h hb1
          have := (D.cons T hS hi hni hr hcc hfb0 (by omega)).did j (by have := c.le; omega) hsj htj
          omega
      · have := c.not j (by have := c.le; omega) (fun h => h.elim hsj (by omega)) htj
        omega
    · have hb1 : b < (st i).h.next := by
        apply Classical.byContradiction
        intro hge
        exact ht (.inl ⟨by omega, hb⟩)
      have hfb0 : f b = some y := by rw [hold b fun hh => by omega] at hfb; exact hfb
      have hcc : (∃ t, cl i = .w t) ∨ cl i = .r ∨ cl i = .o := by
        rcases hcl with h | h | h
        · exact .inl h
        · exact .inr (.inr h)
        · omega
      have c1 := cons_less hni ht c
      have c2 := D.cons T hS hi hni hr hcc hfb0 hb1
      rw [c1.same T c2]
      exact (T.same (p := i) (q := i + 1) (by omega) (by omega) hb1 fun j h1 h2 htj => by
        have : j = i := by omega
        subst this; exact ht htj).symm
  have hnt : ∀ b, (st (i + 1)).h.next ≤ b → ¬ Tch st i b := fun b hb ht => by
    rcases ht with ⟨_, h⟩ | ⟨h, _⟩ <;> omega
  have hcutE : ∀ m, FLe (cutF f2 m) (cutF f' m) := fun m b y e => by
    obtain ⟨e1, e2⟩ := cutF_some e
    have := (cutF_some (hE b y e2)).2
    simp only [cutF, if_pos e1]; exact this
  have hrel : ∀ b k s z q o1, f' b = some (k, s, z) → Cons ops st (fun j => S j ∨ j = i) b q → (st q).h.get b = some o1 → OR w' (cutF f' (st q).h.next) G2 k s z o1 := by
    intro b k s z q o1 hfb c hg
    have late : b < (st (i + 1)).h.next → (st q).h.get b = (st (i + 1)).h.get b → hs'.get b = (st (i + 1)).h.get b → i < q → OR w' (cutF f' (st q).h.next) G2 k s z o1 := fun hb e1 e2 hiq => by
      have h1 := I2.rel b k s z o1 (hI2 b _ hb hfb) (by rw [e2, ← e1, hg])
      exact OR.mono (hE.trans (cutF_mono (FLe.refl _) (T.mono' (i := i + 1) (j := q) (by omega) c.le))) (GLe.refl _) (GKept.refl _ _) rfl h1
    have still : f b = some (k, s, z) → ¬ Tch st i b → w'.heap[k]? = w.heap[k]? → OR w' (cutF f' (st q).h.next) G2 k s z o1 := fun hfb0 ht hk =>
      OR.mono (cutF_mono hB (Nat.le_refl _)) R.gle hGK hk (D.rel b k s z q o1 hfb0 (cons_less hni ht c) hg)
    rcases hcls with hq | ⟨hwo, hg1, hg2⟩
    · by_cases hb : (st i).h.next ≤ b ∧ b < (st (i + 1)).h.next
      · exact late hb.2 (hplace b _ q hfb hb.2 (.inr (.inr hb.1)) c) (X.born b hb.1 hb.2) (c.did i hi (.inr rfl) (.inl hb))
      · have hfb0 : f b = some (k, s, z) := by rw [hold b hb] at hfb; exact hfb
        exact still hfb0 (hquiet hq b hb) (hkeep hq k (D.rng b k s z hfb0).1)
    · by_cases hb : b < (st (i + 1)).h.next
      · have e1 := hplace b _ q hfb hb (hwo.imp id .inl) c
        by_cases hiq : i < q
        · exact late hb e1 (hg2 b) hiq
        · have ht : ¬ Tch st i b := fun ht => hiq (c.did i hi (.inr rfl) ht)
          have hlt := c.lt
          have hbi : b < (st i).h.next := by
            have := T.mono' (i := q) (j := i) (by omega) (by omega); omega
          have hfb0 : f b = some (k, s, z) := by rw [hold b fun hh => by omega] at hfb; exact hfb
          have h1 := I2.rel b k s z o1 (hI2 b _ hb hfb) (by rw [hg2, ← e1, hg])
          exact OR.mono (hcutE _) (GLe.refl _) (GKept.refl _ _) rfl (OR.cutB (D.rel b k s z q o1 hfb0 (cons_less hni ht c) hg) h1)
      · have hfb0 : f b = some (k, s, z) := by rw [hold b fun hh => hb hh.2] at hfb; exact hfb
        obtain ⟨j, hj, hsj, hcj, h3, h4, hij⟩ := hfloat hwo b k s z hfb0 (by omega)
        refine still hfb0 (hnt b (by omega)) (R.old k (D.rng b k s z hfb0).1 fun b' s' z' e => ?_)
        obtain ⟨e1, e2⟩ := cutF_some e
        exact absurd e2 (D.jj b k s z j hj hsj hcj h3 h4 hfb0 b' s' z' (by have := T.mono' (i := i) (j := j) (by omega) (by omega); omega))
  have hinj : ∀ b b' k s z s' z' q q', f' b = some (k, s, z) → f' b' = some (k, s', z') → b ≠ b' → Cons ops st (fun j => S j ∨ j = i) b q → Cons ops st (fun j => S j ∨ j = i) b' q' → ¬ (live (st q).h b ∧ live (st q').h b') := by
    intro b b' k s z s' z' q q' hfb hfb' hne c c' hl
    have mv : ∀ {b q : Nat}, (st q).h.get b = (st (i + 1)).h.get b → hs'.get b = (st (i + 1)).h.get b → live (st q).h b → live hs' b := fun e1 e2 ⟨o1, l1, l2⟩ => ⟨o1, by rw [e2, ← e1, l1], l2⟩
    rcases hcls with hq | ⟨hwo, hg1, hg2⟩
    · have fresh : ∀ {b b' : Nat} {s z s' z' : Nat}, f' b = some (k, s, z) → f' b' = some (k, s', z') → ((st i).h.next ≤ b ∧ b < (st (i + 1)).h.next) → ¬ ((st i).h.next ≤ b' ∧ b' < (st (i + 1)).h.next) → False := fun {b b' s z s' z'} h1 h2 hb hb' => by
        rw [hnew b hb.1 hb.2] at h1
        rw [hold b' hb'] at h2
        have hk' := (D.rng b' k s' z' h2).1
        have hn : cutF f (st i).h.next b = none := by
          cases e0 : cutF f (st i).h.next b with
          | none => rfl
          | some y => have := (cutF_some e0).1; omega
        obtain ⟨_, x1 | ⟨b0, s0, z0, x1, x2⟩⟩ := R.fnew b k s z h1 hn
        · omega
        · have := (cutF_some x1).1
          have hlow2 : (st i).h.next ≤ hs'.low := by
            rcases hq with hcj | hcj
            · exact X.rlow hcj
            · rcases X.kind with ⟨⟨t, e1⟩ | e1 | e1, _⟩ | ⟨_, e1⟩
              · rw [e1] at hcj; rcases hcj with hcj | ⟨_, hcj⟩ | hcj <;> cases hcj
              · rw [e1] at hcj; rcases hcj with hcj | ⟨_, hcj⟩ | hcj <;> cases hcj
              · rw [e1] at hcj; rcases hcj with hcj | ⟨_, hcj⟩ | hcj <;> cases hcj
              · omega
          omega
      by_cases hb : (st i).h.next ≤ b ∧ b < (st (i + 1)).h.next
      · by_cases hb' : (st i).h.next ≤ b' ∧ b' < (st (i + 1)).h.next
        · exact I2.inj b b' k s z s' z' (hI2 b _ hb.2 hfb) (hI2 b' _ hb'.2 hfb') hne ⟨mv (hplace b _ q hfb hb.2 (.inr (.inr hb.1)) c) (X.born b hb.1 hb.2) hl.1, mv (hplace b' _ q' hfb' hb'.2 (.inr (.inr hb'.1)) c') (X.born b' hb'.1 hb'.2) hl.2⟩
        · exact fresh hfb hfb' hb hb'
      · by_cases hb' : (st i).h.next ≤ b' ∧ b' < (st (i + 1)).h.next
        · exact fresh hfb' hfb hb' hb
        · rw [hold b hb] at hfb
          rw [hold b' hb'] at hfb'
          exact D.inj b b' k s z s' z' q q' hfb hfb' hne (cons_less hni (hquiet hq b hb) c) (cons_less hni (hquiet hq b' hb') c') hl
    · have far : ∀ {b b' : Nat} {s z s' z' : Nat}, f' b = some (k, s, z) → f' b' = some (k, s', z') → (st (i + 1)).h.next ≤ b → b' < (st (i + 1)).h.next → False := fun {b b' s z s' z'} h1 h2 hb hb' => by
        have h10 : f b = some (k, s, z) := by rw [hold b fun hh => by omega] at h1; exact h1
        obtain ⟨j, hj, hsj, hcj, h3, h4, hij⟩ := hfloat hwo b k s z h10 hb
        exact hjj' b k s z j hj (.inl hsj) hcj h3 h4 h1 b' s' z' (by have := T.mono' (i := i + 1) (j := j) (by omega) (by omega); omega) h2
      by_cases hb : b < (st (i + 1)).h.next
      · by_cases hb' : b' < (st (i + 1)).h.next
        · exact I2.inj b b' k s z s' z' (hI2 b _ hb hfb) (hI2 b' _ hb' hfb') hne ⟨mv (hplace b _ q hfb hb (hwo.imp id .inl) c) (hg2 b) hl.1, mv (hplace b' _ q' hfb' hb' (hwo.imp id .inl) c') (hg2 b') hl.2⟩
        · exact far hfb' hfb (by omega) hb
      · by_cases hb' : b' < (st (i + 1)).h.next
        · exact far hfb hfb' (by omega) hb'
        · rw [hold b fun hh => hb hh.2] at hfb
          rw [hold b' fun hh => hb' hh.2] at hfb'
          exact D.inj b b' k s z s' z' q q' hfb hfb' hne (cons_less hni (hnt b (by omega)) c) (cons_less hni (hnt b' (by omega)) c') hl
  obtain ⟨tw, to⟩ := D.temps T hi ho X.st1 hB R.gle hGK (VR.mono v hE (GLe.refl _) (GKept.refl _ _) vr)
  refine ⟨f', ⟨R.os.trans D.os, R.tape.trans D.tape, R.output.trans D.output, Nat.le_trans D.size R.size, D.sk.trans R.sk, D.fle.trans hB, D.gle.trans R.gle, fun β k hk => ?_, I2.gin, I2.gup, fun b k s z e => ?_, fun b y e => ?_, fun b y e hb => ?_, D.d00, fun b k s z e e0 => ?_, fun k hk hh => ?_, hrel, hinj, hjj', tw, to, by rw [act_put_size]; exact D.asz, by rw [put_defers]; exact D.dfr⟩⟩
  · rcases R.gnew β k hk with h1 | h1
    · exact D.gnew β k h1
    · have := D.size; right; omega
  · by_cases hb : (st i).h.next ≤ b ∧ b < (st (i + 1)).h.next
    · rw [hnew b hb.1 hb.2] at e
      exact I2.rng b k s z e
    · rw [hold b hb] at e
      obtain ⟨r1, r2⟩ := D.rng b k s z e
      refine ⟨Nat.lt_of_lt_of_le r1 R.size, fun β hg => ?_⟩
      rcases R.gnew β k hg with h1 | h1
      · exact r2 β h1
      · omega
  · by_cases hb : (st i).h.next ≤ b ∧ b < (st (i + 1)).h.next
    · exact .inr ⟨i, hi, .inr rfl, hb.1, hb.2⟩
    · rw [hold b hb] at e
      rcases D.dom b y e with h1 | ⟨j, h1, h2, h3⟩
      · exact .inl h1
      · exact .inr ⟨j, h1, .inl h2, h3⟩
  · have := T.mono' (i := 0) (j := i) (by omega) (by omega)
    rw [hold b fun hh => by omega] at e
    exact D.d0 b y e hb
  · have two : ∀ b0 s0 z0, f b0 = some (k, s0, z0) → (st ops.size).h.low ≤ b0 → w0.heap.size ≤ k ∨ ∃ b0 s0 z0, f0 b0 = some (k, s0, z0) ∧ (st ops.size).h.low ≤ b0 := fun b0 s0 z0 h1 h2 => by
      cases e2 : f0 b0 with
      | none => exact D.fnew b0 k s0 z0 h1 e2
      | some y =>
        have := D.fle b0 y e2
        rw [h1] at this; cases this
        exact .inr ⟨b0, s0, z0, e2, h2⟩
    by_cases hb : (st i).h.next ≤ b ∧ b < (st (i + 1)).h.next
    · rw [hnew b hb.1 hb.2] at e
      have hn : cutF f (st i).h.next b = none := by
        cases e1 : cutF f (st i).h.next b with
        | none => rfl
        | some y => have := (cutF_some e1).1; omega
      obtain ⟨_, x1 | ⟨b0, s0, z0, x1, x2⟩⟩ := R.fnew b k s z e hn
      · have := D.size; left; omega
      · exact two b0 s0 z0 (cutF_some x1).2 (by omega)
    · rw [hold b hb] at e
      exact D.fnew b k s z e e0
  · have hk' : k < w.heap.size := Nat.lt_of_lt_of_le hk D.size
    rw [R.old k hk' fun b s z e => ?_, D.old k hk hh]
    have e1 := (cutF_some e).2
    cases e2 : f0 b with
    | some y =>
      have := D.fle b y e2
      rw [e1] at this; cases this
      have := hh b s z e2
      omega
    | none =>
      rcases D.fnew b k s z e1 e2 with h1 | ⟨b0, s0, z0, h1, h2⟩
      · omega
      · have := hh b0 s0 z0 h1; omega
end
end Go.Ev
end

section
set_option linter.unusedVariables false
set_option linter.unusedSimpArgs false
namespace Go.Ev
variable {P : Program} {cx : Cx} {w : World} {f : FM} {G : GM} {h : Hp}
theorem OpI.keepL {ops : List Oper} {o : Oper} {tm : List V} {h h' : Hp} {v : V} {l : Nat} (x : OpI P cx ops o tm ⟨h.tr, h.next, h.next⟩ v h') (hl : l = min h.low h'.low) : KeepL h ⟨h'.tr, h'.next, l⟩ := by
  subst hl
  obtain ⟨a, b, c, d⟩ := x.keep
  exact ⟨a, b, Nat.min_le_left _ _, fun b hb hlt => d b hb (Nat.lt_of_lt_of_le hlt (Nat.min_le_right _ _))⟩
section
variable {ops : Array Oper} {ms : List Nat} {st : Nat → St} {dc : Nat → Dc} {cl : Nat → Cl} {w0 : World} {f0 : FM} {G0 : GM} {ds : List Deferred} {S : Nat → Prop} {a : Act}
theorem Trc.keepL (T : Trc P cx ops ms st dc cl) : ∀ {i : Nat}, i ≤ ops.size → KeepL (st 0).h (st i).h
  | 0, _ => KeepL.refl _
  | i + 1, hi => by
    refine (T.keepL (i := i) (by omega)).trans ?_
    obtain ⟨o, a, h1, h2, h3⟩ := T.step i (by omega)
    rcases h3 with ⟨_, e, _, _⟩ | ⟨_, v, h', hop, e, _⟩
    · rw [e, stput_h]; exact KeepL.refl _
    · rw [e, stput_h]; exact hop.keepL rfl
/-- an operation whose guard says no -/
theorem DI.skip (T : Trc P cx ops ms st dc cl) (D : DI P ops st cl w0 f0 G0 ds S w f G a) {i : Nat} (hi : i < ops.size) (hni : ¬ S i) {o : Oper} (ho : ops[i]? = some o) (hw : wanted ops.toList (st i).tm o = false) :
    DI P ops st cl w0 f0 G0 ds (fun j => S j ∨ j = i) w f G (a.put o.dst undef) := by
  obtain ⟨o', m, e1, e2, hst⟩ := T.step i hi
  rw [ho] at e1; cases e1
  rcases hst with ⟨_, est, _, ecl⟩ | ⟨hw', _⟩
  case inr => rw [hw] at hw'; cases hw'
  have hh : (st (i + 1)).h = (st i).h := by rw [est, stput_h]
  have hnt : ∀ b, ¬ Tch st i b := fun b ht => by
    rcases ht with ⟨t1, t2⟩ | ⟨t1, t2⟩
    · rw [hh] at t2; omega
    · rw [hh] at t2; exact t2 rfl
  have hst1 : st (i + 1) = St.put ⟨(st i).tm, (st i).h⟩ o.dst .und := est
  obtain ⟨tw, to⟩ := D.temps T hi ho hst1 (FLe.refl _) (GLe.refl _) (GKept.refl _ _) (x := undef) VR.und
  refine ⟨D.os, D.tape, D.output, D.size, D.sk, D.fle, D.gle, D.gnew, D.gin, D.gup, D.rng, fun b y e => ?_, D.d0, D.d00, D.fnew, D.old, fun b k s z q o1 e c => D.rel b k s z q o1 e (cons_less hni (hnt b) c),
    fun b b' k s z s' z' q q' e e' hne c c' => D.inj b b' k s z s' z' q q' e e' hne (cons_less hni (hnt b) c) (cons_less hni (hnt b') c'), fun b k s z j hj hs hc => ?_, tw, to, by rw [act_put_size]; exact D.asz, by rw [put_defers]; exact D.dfr⟩
  · rcases D.dom b y e with h1 | ⟨j, h1, h2, h3⟩
    · exact .inl h1
    · exact .inr ⟨j, h1, .inl h2, h3⟩
  · rcases hs with hs | rfl
    · exact D.jj b k s z j hj hs hc
    · rw [ecl] at hc; rcases hc with hc | hc <;> cases hc
theorem DI.start (T : Trc P cx ops ms st dc cl) (i : Inv w f G (st 0).h) (ha : ActR w f G (st 0).tm a) : DI P ops st cl w f G a.defers (fun _ => False) w f G a := by
  refine ⟨rfl, rfl, rfl, Nat.le_refl _, SKept.refl w, FLe.refl _, GLe.refl _, fun _ _ h => .inl h, i.gin, i.gup, i.rng, fun b y e => .inl (i.dom b y e), fun b y e _ => e, i.dom, fun b k s z e e' => (by rw [e] at e'; cases e'), fun _ _ _ => rfl,
    fun b k s z q o e c hg => ?_, fun b b' k s z s' z' q q' e e' hne c c' hl => ?_, fun b k s z j hj hs => hs.elim, fun j oj t v hj hs => hs.elim, fun t v _ hv => ?_, ha.1, rfl⟩
  · have hb := i.dom _ _ e
    have hs : (st q).h.get b = (st 0).h.get b := T.same (Nat.zero_le _) c.le hb fun j h1 h2 ht => by
      have := c.not j (by have := c.le; omega) (fun h => h) ht; omega
    rw [hs] at hg
    refine OR.mono (fun b' y' e' => ?_) (GLe.refl _) (GKept.refl _ _) rfl (i.rel b k s z o e hg)
    simp only [cutF]
    rw [if_pos (Nat.lt_of_lt_of_le (i.dom _ _ e') (T.mono' (Nat.zero_le _) c.le))]
    exact e'
  · have same : ∀ {b q : Nat} {y}, f b = some y → Cons ops st (fun _ => False) b q → live (st q).h b → live (st 0).h b := fun {b q y} e c ⟨o, l1, l2⟩ => ⟨o, by
      rw [← l1]
      exact (T.same (Nat.zero_le _) c.le (i.dom _ _ e) fun j h1 h2 ht => by
        have := c.not j (by have := c.le; omega) (fun h => h) ht; omega).symm, l2⟩
    exact i.inj b b' k s z s' z' e e' hne ⟨same e c hl.1, same e' c' hl.2⟩
  · exact VRs_iff.1 ha.2 t v hv
theorem DI.last (T : Trc P cx ops ms st dc cl) (D : DI P ops st cl w0 f0 G0 ds S w f G a) (hall : ∀ i, i < ops.size → S i) : PostO w0 f0 G0 (st 0) ds (st ops.size) a w := by
  have hcons : ∀ b y, f b = some y → Cons ops st S b ops.size := fun b y e => by
    refine ⟨Nat.le_refl _, ?_, fun j hj _ _ => hj, fun j hj hs => absurd (hall j hj) hs⟩
    rcases D.dom b y e with h1 | ⟨j, h1, _, _, h4⟩
    · exact Nat.lt_of_lt_of_le h1 (T.mono' (Nat.zero_le _) (Nat.le_refl _))
    · exact Nat.lt_of_lt_of_le h4 (T.mono' (i := j + 1) (by omega) (Nat.le_refl _))
  have kl := T.keepL (Nat.le_refl _)
  refine ⟨f, G, ⟨D.os, D.tape, D.output, D.size, D.fle, fun b k s z e e0 => ⟨?_, D.fnew b k s z e e0⟩, D.gle, D.gnew, kl.1, kl.2.2.1, kl.2.2.2, D.old, D.sk⟩, ⟨fun b y e => (hcons b y e).lt, D.rng, fun b b' k s z s' z' e e' hne => D.inj b b' k s z s' z' _ _ e e' hne (hcons _ _ e) (hcons _ _ e'), D.gin, D.gup, fun b k s z o e hg => ?_⟩, ⟨by rw [D.asz, T.tm_len (Nat.le_refl _)], VRs_iff.2 fun t v hv => ?_⟩, D.dfr⟩
  · apply Classical.byContradiction
    intro hlt
    rw [D.d0 b _ e (by omega)] at e0
    cases e0
  · exact OR.mono (cutF_le _ _) (GLe.refl _) (GKept.refl _ _) rfl (D.rel b k s z _ o e (hcons _ _ e) hg)
  · by_cases hex : ∃ j oj, j < ops.size ∧ ops[j]? = some oj ∧ oj.dst = some t
    · obtain ⟨j, oj, hj, hoj, hd⟩ := hex
      have hsame : (st ops.size).tm[t]? = (st (j + 1)).tm[t]? := T.tm_same (by omega) (Nat.le_refl _) fun q oq h1 h2 hoq hdq => by
        have := T.one (i := q) (j := j) (by omega) (by omega) hoq hoj hdq hd
        omega
      rw [hsame] at hv
      obtain ⟨u, hu, hvr⟩ := D.tw j oj t v hj (hall j hj) hoj hd hv
      exact ⟨u, hu, VR.mono v (cutF_le _ _) (GLe.refl _) (GKept.refl _ _) hvr⟩
    · have hsame : (st ops.size).tm[t]? = (st 0).tm[t]? := T.tm_same (Nat.zero_le _) (Nat.le_refl _) fun q oq h1 h2 hoq hdq => hex ⟨q, oq, h2, hoq, hdq⟩
      rw [hsame] at hv
      obtain ⟨u, hu, hvr⟩ := D.to t v (fun j oj hj _ hoj hd => hex ⟨j, oj, hj, hoj, hd⟩) hv
      exact ⟨u, hu, VR.mono v D.fle (GLe.refl _) (GKept.refl _ _) hvr⟩
theorem wanted_mask {tm : List V} {o : Oper} {L : List Oper} : wanted L (maskT (readsOf L o) tm) o = wanted L tm o := by
  unfold wanted
  cases hg : o.guard with
  | none => rfl
  | some jw =>
    obtain ⟨j, want⟩ := jw
    simp only
    cases hj : L[j]? with
    | none => rfl
    | some oj =>
      simp only
      cases hd : oj.dst with
      | none => rfl
      | some d =>
        have : d ∈ readsOf L o := by
          simp only [readsOf, List.mem_append, hg, hj, hd]
          exact .inr (by simp)
        simp only [maskT, List.getElem?_mapIdx]
        cases tm[d]? <;> simp [this]
theorem yielded_mask {a : Act} {o : Oper} : Region.wanted o (yielded ops (maskA (readsOf ops.toList o) a).tmps) = Region.wanted o (yielded ops a.tmps) := by
  unfold Region.wanted
  cases hg : o.guard with
  | none => rfl
  | some jw =>
    obtain ⟨j, want⟩ := jw
    simp only [yielded]
    cases hj : ops[j]? with
    | none => rfl
    | some oj =>
      cases hd : oj.dst with
      | none => simp [hd]
      | some d =>
        have : d ∈ readsOf ops.toList o := by
          simp only [readsOf, List.mem_append, hg, Array.getElem?_toList, hj, hd]
          exact .inr (by simp)
        simp only [hd, Option.bind_some, maskA, Array.getElem?_mapIdx]
        cases a.tmps[d]? <;> simp [this]
theorem wanted_reads {tm : List V} {o : Oper} (hr : ReadsR w f G (readsOf ops.toList o) tm a) : Region.wanted o (yielded ops a.tmps) = wanted ops.toList tm o := by
  rw [← yielded_mask, wanted_ok hr.mask, wanted_mask]
end
end Go.Ev
end

section
set_option linter.unusedVariables false
set_option linter.unusedSimpArgs false
namespace Go.Ev
variable {P : Program} {cx : Cx} {w : World} {f : FM} {G : GM} {h : Hp}
/-- how many of the first n are not listed -/
def cntU (l : Array Bool) : Nat → Nat
  | 0 => 0
  | n + 1 => cntU l n + (if l.getD n true = false then 1 else 0)
theorem cntU_le (l : Array Bool) : ∀ n, cntU l n ≤ n
  | 0 => Nat.le_refl _
  | n + 1 => by
    have := cntU_le l n
    simp only [cntU]
    split <;> omega
theorem getD_set (l : Array Bool) (i j : Nat) (d : Bool) (hi : i < l.size) : (l.setIfInBounds i true).getD j d = if j = i then true else l.getD j d := by
  simp only [Array.getD_eq_getD_getElem?, Array.getElem?_setIfInBounds]
  by_cases e : i = j
  · subst e; simp [hi]
  · rw [if_neg e, if_neg (fun h => e h.symm)]
theorem cntU_set {l : Array Bool} {i : Nat} (hi : i < l.size) (hl : l.getD i true = false) : ∀ n, cntU (l.setIfInBounds i true) n + (if i < n then 1 else 0) = cntU l n
  | 0 => rfl
  | n + 1 => by
    have ih := cntU_set hi hl n
    simp only [cntU, getD_set l i n true hi]
    by_cases e : n = i
    · subst e
      simp [hl] at ih ⊢
      exact ih
    · rw [if_neg e]
      by_cases hlt : i < n
      · rw [if_pos hlt] at ih; rw [if_pos (by omega : i < n + 1)]; omega
      · rw [if_neg hlt] at ih; rw [if_neg (by omega : ¬ i < n + 1)]; omega
theorem cntU_zero {l : Array Bool} : ∀ {n}, cntU l n = 0 → ∀ i, i < n → l.getD i true ≠ false
  | 0, _, i, hi => by omega
  | n + 1, h, i, hi => by
    simp only [cntU] at h
    by_cases e : i = n
    · subst e
      intro hf
      rw [if_pos hf] at h; omega
    · exact cntU_zero (n := n) (by omega) i (by omega)
section
variable {ops : Array Oper} {ms : List Nat} {st : Nat → St} {dc : Nat → Dc} {cl : Nat → Cl} {w0 : World} {f0 : FM} {G0 : GM} {ds : List Deferred} {S : Nat → Prop} {a : Act}
theorem getD_in {l : Array Bool} {i : Nat} (hi : i < l.size) (d d' : Bool) : l.getD i d = l.getD i d' := by simp [Array.getD_eq_getD_getElem?, hi]
theorem ready_all (T : Trc P cx ops ms st dc cl) {listed : Array Bool} (hsz : listed.size = ops.size) (hr : Region.ready .any ops listed = []) : ∀ i, i < ops.size → listed.getD i false = true := fun i => by
  induction i using Nat.strongRecOn with
  | ind i ih =>
    intro hi
    cases hb : listed.getD i false with
    | true => rfl
    | false =>
      exfalso
      have hm : i ∈ Region.ready .any ops listed := mem_ready.2 ⟨by rw [getD_in (by omega) true false]; exact hb, ops[i], by simp [hi], fun e he hbd => by
        have hlt := (T.draw i hi).edge ops[i] e (by simp [hi]) (by simpa using he) hbd
        exact ih e.on hlt (by omega)⟩
      rw [hr] at hm
      cases hm
theorem draw_loop (hc : TyOk P cx) (T : Trc P cx ops ms st dc cl) {r : Option Nat} {m : Nat} {Q : Exit → Act → World → Prop} (hq : ∀ a' w', PostO w0 f0 G0 (st 0) ds (st ops.size) a' w' → Q .normal a' w') :
    ∀ (fuel : Nat) (listed : Array Bool) (a : Act) (w : World) (f : FM) (G : GM), listed.size = ops.size → Closed ops (fun i => listed.getD i false = true) → cntU listed ops.size ≤ fuel →
      DI P ops st cl w0 f0 G0 ds (fun i => listed.getD i false = true) w f G a → wpAnyIn (Fr r) m P .any ops Q fuel listed a w := by
  intro fuel
  induction fuel with
  | zero =>
    intro listed a w f G hsz hS hcnt D
    have hall : Region.ready .any ops listed = [] := by
      cases hr : Region.ready .any ops listed with
      | nil => rfl
      | cons j js =>
        have hj : j ∈ Region.ready .any ops listed := by rw [hr]; simp
        obtain ⟨h1, o, h2, _⟩ := mem_ready.1 hj
        exact absurd h1 (cntU_zero (by omega) j (Array.getElem?_eq_some_iff.1 h2).1)
    exact ⟨hall, hq a w (D.last T (ready_all T hsz hall))⟩
  | succ fuel ih =>
    intro listed a w f G hsz hS hcnt D
    refine ⟨fun hr => hq a w (D.last T (ready_all T hsz hr)), fun i hi => ?_⟩
    obtain ⟨h1, o, ho, hdep⟩ := mem_ready.1 hi
    have hlt : i < ops.size := (Array.getElem?_eq_some_iff.1 ho).1
    have hni : ¬ (listed.getD i false = true) := by rw [getD_in (by omega) false true, h1]; simp
    have hr : Rdy ops (fun i => listed.getD i false = true) i := fun o' e ho' he hb => by
      rw [ho] at ho'; cases ho'
      exact hdep e (by simpa using he) hb
    have hset : (fun j => listed.getD j false = true ∨ j = i) = (fun j => (listed.setIfInBounds i true).getD j false = true) := funext fun j => by
      rw [getD_set listed i j false (by omega)]
      by_cases e : j = i
      · simp [e]
      · simp [e]
    have hcl : Closed ops (fun j => (listed.setIfInBounds i true).getD j false = true) := by
      rw [← hset]
      intro j o' e hj ho' he hb
      rcases hj with hj | rfl
      · exact .inl (hS j o' e hj ho' he hb)
      · exact .inl (hr o' e ho' he hb)
    have hcnt2 : cntU (listed.setIfInBounds i true) ops.size ≤ fuel := by
      have := cntU_set (by omega) h1 ops.size
      rw [if_pos hlt] at this
      omega
    have go : ∀ (a' : Act) (w' : World) (f' : FM) (G' : GM), DI P ops st cl w0 f0 G0 ds (fun j => listed.getD j false = true ∨ j = i) w' f' G' a' → wpAnyIn (Fr r) m P .any ops Q fuel (listed.setIfInBounds i true) a' w' := fun a' w' f' G' D' => by
      rw [hset] at D'
      exact ih _ a' w' f' G' (by simpa using hsz) hcl hcnt2 D'
    have hrd := D.reads T hS hlt hni hr ho
    unfold wpOpIn
    rw [ho]
    simp only [wanted_reads hrd]
    cases hw : wanted ops.toList (st i).tm o with
    | false =>
      simp only [Bool.false_eq_true, if_false]
      exact ⟨fun _ _ => trivial, go _ _ f G (D.skip T hlt hni ho hw)⟩
    | true =>
      simp only [if_true]
      obtain ⟨v, hs, hs', X⟩ := D.exec hc T hS hlt hni hr ho hw
      refine ⟨fun _ _ => trivial, ((X.op hw).up r m w _ G a X.inv hrd).upon fun x w1 ⟨f2, G2, st2, i2, v2⟩ => ?_⟩
      obtain ⟨f', D'⟩ := D.next T hS hlt hni hr ho X st2 i2 v2
      exact go _ _ f' G2 D'
theorem drawn_ok (i : Inv w f G h) (n : Nat) : Stp w f G h { w with drawn := n } f G h ∧ Inv { w with drawn := n } f G h :=
  ⟨⟨rfl, rfl, rfl, Nat.le_refl _, FLe.refl _, (fun b k s z e e' => by rw [e] at e'; cases e'), GLe.refl _, (fun _ _ h => Or.inl h), Nat.le_refl _, Nat.le_refl _, fun _ _ _ => rfl, fun _ _ _ => rfl, SKept.refl w⟩,
    ⟨i.dom, i.rng, i.inj, i.gin, i.gup, fun b k s z o e hg => OR.mono (w := w) (w' := { w with drawn := n }) (FLe.refl _) (GLe.refl _) ⟨fun _ _ _ => rfl, SKept.refl w⟩ rfl (i.rel b k s z o e hg)⟩⟩
theorem trace_trc {rec : Tk → Rs → Prop} {n : Nat} (hc : CxOk P cx) (H : ∀ t r, rec t r → Sound P cx n t r) {s : St} {k : St → M} {res : Rs} (he : (evDraws cx ops.toList s k).runR rec res) :
    ∃ ms st dc cl, Trc P cx ops ms st dc cl ∧ st 0 = s ∧ (k (st ops.size)).runR rec res := by
  unfold evDraws at he
  simp only at he
  split at he
  case isFalse => exact (run_no he).elim
  rename_i hp
  obtain ⟨st, dc, cl, e1, e2, e3, e4⟩ := draw_trace (ops := ops) (ms := masks .nil 0 ops.toList) hc H ops.toList (masks .nil 0 ops.toList) 0 _ s (fun q => by simp) (fun q => by simp) he
  have hlen : ops.toList.length = ops.size := by simp
  refine ⟨masks .nil 0 ops.toList, st, dc, cl, ⟨fun i hi => ?_, fun i hi => ?_, fun i a ha j hj => ?_, ?_⟩, e1, ?_⟩
  · have := e3 i (by omega)
    simpa using this
  · have := drawP_ok (ops := ops) (ms := masks .nil 0 ops.toList) (l := ops.toList) (as := masks .nil 0 ops.toList) (i := 0) (wr := .nil) (rs := .nil) (fun q => by simp) (fun q => by simp) hp (fun j _ _ hj => by omega) (fun j _ _ hj => by omega) i (by omega)
    simpa using this
  · have := masks_ok (ops := ops) (l := ops.toList) (pm := .nil) (i := 0) (fun q => by simp) (fun q a hq => by rw [Tr.get_nil] at hq; cases hq) i a ha j hj
    simpa using this
  · intro i
    induction i with
    | zero => intro _ j hj; omega
    | succ i ih =>
      intro hi
      obtain ⟨o, a, h1, h2, h3⟩ := e3 i (by omega)
      simp only [Nat.zero_add] at h3
      exact dcI_step (ih (by omega)) h3
  · simpa using e4
theorem draw_ok (hc : CxOk P cx) : DrawOk P cx := fun rec n H ops s k res he => by
  obtain ⟨ms, st, dc, cl, T, rfl, he2⟩ := trace_trc hc H he
  refine ⟨st ops.size, T.keepL (Nat.le_refl _), he2, fun r m w f G a Q id i ha hq => ?_⟩
  obtain ⟨d1, d2⟩ := drawn_ok i (w.drawn + 1)
  refine wpIn_region_any hc.mixed (draw_loop (w0 := { w with drawn := w.drawn + 1 }) (f0 := f) (G0 := G) (ds := a.defers) hc.ty T (fun a' w' hp => hq a' w' ?_) _ _ a _ f G (by simp) ?_ (cntU_le _ _) ?_)
  · obtain ⟨f', G', p1, p2, p3, p4⟩ := hp
    exact ⟨f', G', d1.trans p1, p2, p3, p4⟩
  · intro i o e hi
    simp [Array.getD_eq_getD_getElem?, Array.getElem?_replicate] at hi
    split at hi <;> simp at hi
  · have hS : (fun i => (Array.replicate ops.size false).getD i false = true) = (fun _ => False) := funext fun i => by
      simp [Array.getD_eq_getD_getElem?, Array.getElem?_replicate]
      split <;> simp
    rw [hS]
    exact DI.start T d2 (ha.step i d1)
/-- What the evaluator computes is what the machine does. -/
theorem evF_sound (hc : CxOk P cx) {n : Nat} {t : Tk} {r : Rs} (h : evF cx n t = some r) : Sound P cx n t r := sound hc (draw_ok hc) n t r h
end
end Go.Ev
end

section
set_option linter.unusedVariables false
set_option linter.unusedSimpArgs false
namespace Go.Ev
variable {P : Program} {cx : Cx}
/-! ### Equal values; calls that are known beforehand -/
def natO : Option Nat → Option Nat → Bool
  | none, none => true
  | some a, some b => a.beq b
  | _, _ => false
def fnEq : Fn → Fn → Bool
  | .func a, .func b => a.beq b
  | _, _ => false
mutual
def V.same : V → V → Bool
  | .bool a, y => match y with | .bool b => a == b | _ => false
  | .int k a, y => match y with | .int k' b => decide (k = k') && a == b | _ => false
  | .flt k a, y => match y with | .flt k' b => decide (k = k') && a.beq b | _ => false
  | .str a, y => match y with | .str b => decide (a.data.toList = b.data.toList) | _ => false
  | .pnil, y => match y with | .pnil => true | _ => false
  | .ptr a b c, y => match y with | .ptr d e f => a.beq d && b.beq e && c.beq f | _ => false
  | .ipt β cs o, y => match y with | .ipt β' cs' o' => β == β' && o.beq o' && V.sames cs cs' | _ => false
  | .snil, y => match y with | .snil => true | _ => false
  | .sl b o n z c, y => match y with | .sl b' o' n' z' c' => b.beq b' && o.beq o' && n.beq n' && z.beq z' && natO c c' | _ => false
  | .imm β z c es, y => match y with | .imm β' z' c' es' => β == β' && z.beq z' && c == c' && V.samess es es' | _ => false
  | .mnil, y => match y with | .mnil => true | _ => false
  | .map b, y => match y with | .map b' => b.beq b' | _ => false
  | .fn f a c, y => match y with | .fn f' a' c' => fnEq f f' && V.sames a a' && V.sames c c' | _ => false
  | .yld b, y => match y with | .yld b' => b.beq b' | _ => false
  | .fnil, y => match y with | .fnil => true | _ => false
  | .ifc t v, y => match y with | .ifc t' v' => t.beq t' && V.same v v' | _ => false
  | .inil, y => match y with | .inil => true | _ => false
  | .agg cs, y => match y with | .agg cs' => V.sames cs cs' | _ => false
  | .tup cs, y => match y with | .tup cs' => V.sames cs cs' | _ => false
  | .any, y => match y with | .any => true | _ => false
def V.sames : List V → List V → Bool
  | [], ys => match ys with | [] => true | _ => false
  | x :: xs, ys => match ys with | y :: ys => V.same x y && V.sames xs ys | [] => false
def V.samess : List (List V) → List (List V) → Bool
  | [], ys => match ys with | [] => true | _ => false
  | x :: xs, ys => match ys with | y :: ys => V.sames x y && V.samess xs ys | [] => false
end
theorem natO_eq : ∀ {a b : Option Nat}, natO a b = true → a = b
  | none, none, _ => rfl
  | some a, some b, h => by rw [Nat.eq_of_beq_eq_true h]
  | none, some _, h => by cases h
  | some _, none, h => by cases h
theorem fnEq_eq : ∀ {a b : Fn}, fnEq a b = true → a = b := by
  intro a b h
  cases a <;> cases b <;> simp only [fnEq] at h <;> try cases h
  rw [Nat.eq_of_beq_eq_true h]
mutual
theorem V.same_eq : ∀ (x : V) {y : V}, V.same x y = true → x = y
  | .bool a, y, h => by cases y <;> simp_all [V.same]
  | .int k a, y, h => by cases y <;> simp_all [V.same]
  | .flt k a, y, h => by
    cases y <;> simp [V.same] at h
    rw [h.1, h.2]
  | .str a, y, h => by
    cases y <;> simp [V.same] at h
    obtain ⟨⟨a⟩⟩ := a
    rename_i b
    obtain ⟨⟨b⟩⟩ := b
    simp only at h
    rw [h]
  | .pnil, y, h => by cases y <;> simp_all [V.same]
  | .ptr a b c, y, h => by
    cases y <;> simp [V.same] at h
    rw [h.1.1, h.1.2, h.2]
  | .ipt β cs o, y, h => by
    cases y <;> simp [V.same] at h
    rw [h.1.1, h.1.2, V.sames_eq cs h.2]
  | .snil, y, h => by cases y <;> simp_all [V.same]
  | .sl b o n z c, y, h => by
    cases y <;> simp [V.same] at h
    rw [h.1.1.1.1, h.1.1.1.2, h.1.1.2, h.1.2, natO_eq h.2]
  | .imm β z c es, y, h => by
    cases y <;> simp [V.same] at h
    rw [h.1.1.1, h.1.1.2, h.1.2, V.samess_eq es h.2]
  | .mnil, y, h => by cases y <;> simp_all [V.same]
  | .map b, y, h => by
    cases y <;> simp [V.same] at h
    rw [h]
  | .fn f a c, y, h => by
    cases y <;> simp [V.same] at h
    rw [fnEq_eq h.1.1, V.sames_eq a h.1.2, V.sames_eq c h.2]
  | .yld b, y, h => by
    cases y <;> simp [V.same] at h
    rw [h]
  | .fnil, y, h => by cases y <;> simp_all [V.same]
  | .ifc t v, y, h => by
    cases y <;> simp [V.same] at h
    rw [h.1, V.same_eq v h.2]
  | .inil, y, h => by cases y <;> simp_all [V.same]
  | .agg cs, y, h => by
    cases y <;> simp [V.same] at h
    rw [V.sames_eq cs h]
  | .tup cs, y, h => by
    cases y <;> simp [V.same] at h
    rw [V.sames_eq cs h]
  | .any, y, h => by cases y <;> simp_all [V.same]
theorem V.sames_eq : ∀ (x : List V) {y : List V}, V.sames x y = true → x = y
  | [], [], _ => rfl
  | [], _ :: _, h => by simp [V.sames] at h
  | _ :: _, [], h => by simp [V.sames] at h
  | x :: xs, y :: ys, h => by
    simp only [V.sames, Bool.and_eq_true] at h
    rw [V.same_eq x h.1, V.sames_eq xs h.2]
theorem V.samess_eq : ∀ (x : List (List V)) {y : List (List V)}, V.samess x y = true → x = y
  | [], [], _ => rfl
  | [], _ :: _, h => by simp [V.samess] at h
  | _ :: _, [], h => by simp [V.samess] at h
  | x :: xs, y :: ys, h => by
    simp only [V.samess, Bool.and_eq_true] at h
    rw [V.sames_eq x h.1, V.samess_eq xs h.2]
end
/-- one call more that is known -/
def Cx.know (cx : Cx) (f : Nat) (args : List V) (v : V) : Cx :=
  { cx with spec := fun g => cond (g.beq f) (some fun as => cond (V.sames as args) (some v) (specOf cx g as)) (cx.spec g) }
theorem CxOk.withSpec (hc : CxOk P cx) {s : Nat → Option (List V → Option V)} (hs : ∀ g p args v, s g = some p → p args = some v → PcallS P cx g args v) : CxOk P { cx with spec := s } :=
  ⟨⟨hc.ty.ty⟩, hc.fn, hc.meth, hc.mixed, hc.prim, fun g p args v h1 h2 => hs g p args v h1 h2⟩
theorem CxOk.know (hc : CxOk P cx) {f n : Nat} {args : List V} {v : V} {h : Hp} (he : evF cx n (.pcall f args) = some (.val v h)) : CxOk P (cx.know f args v) := by
  refine hc.withSpec fun g p as u h1 h2 => ?_
  cases hb : g.beq f with
  | false =>
    rw [hb, cond_false] at h1
    exact hc.spec g p as u h1 h2
  | true =>
    rw [hb, cond_true] at h1
    cases h1
    have hg := Nat.eq_of_beq_eq_true hb
    simp only [] at h2
    cases hs : V.sames as args with
    | true =>
      rw [hs, cond_true] at h2
      cases h2
      rw [V.sames_eq as hs, hg]
      exact evF_sound hc he
    | false =>
      rw [hs, cond_false] at h2
      unfold specOf at h2
      split at h2
      · rename_i p0 hp0
        exact hc.spec g p0 as u hp0 h2
      · cases h2
end Go.Ev
end

section
set_option linter.unusedVariables false
set_option linter.unusedSimpArgs false
namespace Go.Ev
variable {P : Program} {cx : Cx}
/-! ### Tables: what the evaluator is told, held against the program -/
/-- a table's entries, with their places -/
def Tr.entries {α : Type} (g : Nat → Nat) : Tr α → List (Nat × α)
  | .nil => []
  | .node l x r => (match x with | some a => [(g 0, a)] | none => []) ++ (Tr.entries (fun n => g (2 * n + 1)) l ++ Tr.entries (fun n => g (2 * n + 2)) r)
theorem Tr.mem_entries {α : Type} : ∀ (t : Tr α) (g : Nat → Nat) (n : Nat) (a : α), t.get n = some a → (g n, a) ∈ t.entries g
  | .nil, g, n, a, h => by rw [Tr.get_nil] at h; cases h
  | .node l x r, g, n, a, h => by
    rw [Tr.get_node] at h
    simp only [Tr.entries, List.mem_append]
    split at h
    · rename_i e
      subst e
      left
      rw [h]
      simp
    · split at h
      · right; left
        have := Tr.mem_entries l (fun n => g (2 * n + 1)) (n / 2) a h
        rwa [show 2 * (n / 2) + 1 = n by omega] at this
      · right; right
        have := Tr.mem_entries r (fun n => g (2 * n + 2)) (n / 2 - 1) a h
        rwa [show 2 * (n / 2 - 1) + 2 = n by omega] at this
theorem tab_ok {α : Type} {t : Tr α} {q : Nat → Option α} (h : (t.entries id).map (fun x => q x.1) = (t.entries id).map (fun x => some x.2)) : ∀ n a, t.get n = some a → q n = some a := fun n a hn => by
  have hm := Tr.mem_entries t id n a hn
  have key : ∀ l : List (Nat × α), l.map (fun x => q x.1) = l.map (fun x => some x.2) → ∀ x ∈ l, q x.1 = some x.2 := by
    intro l
    induction l with
    | nil => intro _ x hx; cases hx
    | cons y ys ih =>
      intro hl x hx
      simp only [List.map_cons, List.cons.injEq] at hl
      rcases List.mem_cons.1 hx with rfl | hx
      · exact hl.1
      · exact ih hl.2 x hx
  exact key _ h _ hm
theorem tab_all {α : Type} {t : Tr α} {q : Nat → α → Bool} (h : (t.entries id).all (fun x => q x.1 x.2) = true) : ∀ n a, t.get n = some a → q n a = true := fun n a hn =>
  List.all_eq_true.1 h _ (Tr.mem_entries t id n a hn)
/-- a method's row that is met at once -/
def methT (P : Program) (t : Nat) (m : String) : Option Nat := methOf P t m
theorem methOf_ok {t g : Nat} {m : String} (h : methOf P t m = some g) (v : Value) (w : World) : (method (P.types.size + Made.depth) t v m).run P w = .ok (g, v) w := by
  unfold methOf at h
  split at h
  case h_2 => cases h
  rename_i i d hi hd
  split at h
  case h_2 => cases h
  rename_i x hx
  split at h
  case isFalse => cases h
  rename_i hp
  have hfuel : ∃ k, P.types.size + Made.depth = k + 1 := ⟨P.types.size + Made.depth - 1, by
    have : 0 < Made.depth := by decide
    omega⟩
  obtain ⟨k, hk⟩ := hfuel
  have hpath : x.path.toList = [] := by
    have := Array.isEmpty_iff.1 hp
    rw [this]
  rw [hk]
  have ht : (typeInfo t).run P w = .ok i w := by simp [typeInfo, hi]
  have hu : (underlying t).run P w = .ok d w := by simp [underlying, hd]
  simp only [method, Sem.run_bind, ht, Result.andThen_ok, hx, hpath, follow, Sem.run_pure]
  cases hfn : x.func with
  | none => rw [hfn] at h; cases h
  | some fb =>
    obtain ⟨f, b⟩ := fb
    rw [hfn] at h
    simp only [Sem.run_bind, receiverAt, hu, Result.andThen_ok]
    cases d <;> cases b <;> simp only [Option.some.injEq] at h <;> first | cases h | skip
    all_goals simp [Place.get]
end Go.Ev
end

section
set_option linter.unusedVariables false
set_option linter.unusedSimpArgs false
namespace Go.Ev
variable {P : Program} {cx : Cx}
def methL : List (Nat × String × Nat) → Nat → String → Option Nat
  | [], _, _ => none
  | (t', m', g) :: r, t, m => cond (t.beq t') (cond (decide (m = m')) (some g) (methL r t m)) (methL r t m)
theorem methL_ok : ∀ {l : List (Nat × String × Nat)}, (∀ e ∈ l, methOf P e.1 e.2.1 = some e.2.2) → ∀ {t m g}, methL l t m = some g → methOf P t m = some g
  | [], _, t, m, g, h => by cases h
  | (t', m', g') :: r, hl, t, m, g, h => by
    have ih : methL r t m = some g → methOf P t m = some g := fun h => methL_ok (fun e he => hl e (by simp [he])) h
    simp only [methL] at h
    cases hb : t.beq t' with
    | false => rw [hb, cond_false] at h; exact ih h
    | true =>
      rw [hb, cond_true] at h
      by_cases hm : m = m'
      · simp only [hm, decide_true, cond_true, Option.some.injEq] at h
        have := hl (t', m', g') (by simp)
        rw [Nat.eq_of_beq_eq_true hb, hm, this, h]
      · simp only [hm, decide_false, cond_false] at h
        exact ih h
def sqrtP : List V → Option V
  | [.flt .f64 b] => match FloatKind.f64.format.sqrt b with
    | some r => some (.flt .f64 r)
    | none => none
  | _ => none
theorem sqrtP_ok {k : Nat} (hk : ∀ (x : Nat) (w : World), (callFunc k #[.float .f64 x]).run P w = (Extern.MathSqrt.sqrt #[.float .f64 x] >>= fun v => pure (Next.value v)).run P w)
    (args : List V) (v : V) (hp : sqrtP args = some v) (r : Option Nat) (m : Nat) (w : World) (f : FM) (G : GM) (h : Hp) (args' : Array Value) (i : Inv w f G h) (hs : args'.size = args.length) (ha : VRs w f G args (fun i => args'[i]?)) :
    Upon (Fr r) m P (Res w f G h v h) ((callFunc k args').run P w) := by
  unfold sqrtP at hp
  split at hp
  case h_2 => cases hp
  rename_i b
  split at hp
  case h_2 => cases hp
  rename_i x hx
  cases hp
  simp only [VRs, VR] at ha
  obtain ⟨⟨u, hu, rfl⟩, _⟩ := ha
  have : args' = #[.float .f64 b] := by
    apply Array.ext
    · simpa using hs
    · intro j h1 h2
      have : j = 0 := by simp at h2; omega
      subst this
      have := Array.getElem?_eq_some_iff.1 hu
      obtain ⟨_, h3⟩ := this
      simpa using h3
  subst this
  rw [hk]
  have hq : Extern.MathSqrt.sqrt #[.float .f64 b] = (match FloatKind.f64.format.sqrt b with
    | some r => pure (.float .f64 r)
    | none => do pure (.float .f64 (← choose (.nanBits .f64 b b)))) := rfl
  rw [hq, hx]
  simp only [Sem.run_bind, Sem.run_pure, Result.andThen_ok]
  exact ⟨f, G, Stp.refl .., i, by simp only [VR]⟩
/-- what is to be held against the program, of the tables -/
theorem CxOk.ofTab {fnT : Tr Func} {tyT : Tr Ti} {mask sq : Nat} {ms : List (Nat × String × Nat)} 
    (h1 : (fnT.entries id).map (fun x => P.funcs[x.1]?) = (fnT.entries id).map (fun x => some x.2))
    (h2 : (fnT.entries id).all (fun x => !(x.2.name == "runtime.NumGoroutine")) = true)
    (h3 : (tyT.entries id).map (fun x => tyOf P x.1) = (tyT.entries id).map (fun x => some x.2))
    (h4 : ms.map (fun e => methOf P e.1 e.2.1) = ms.map (fun e => some e.2.2))
    (h5 : P.follows .mixedOrders = true)
    (h6 : ∀ (x : Nat) (w : World), (callFunc sq #[.float .f64 x]).run P w = (Extern.MathSqrt.sqrt #[.float .f64 x] >>= fun v => pure (Next.value v)).run P w) :
    CxOk P { fn := fun f => fnT.get f, ty := fun t => tyT.get t, inl := fun f => mask.testBit f, meth := methL ms, prim := fun f => cond (f.beq sq) (some sqrtP) none, spec := fun _ => none } where
  ty := ⟨fun t i ht => tyF (tab_ok (q := tyOf P) h3 t i ht)⟩
  fn := fun g fn hg => ⟨tab_ok (q := fun g => P.funcs[g]?) h1 g fn hg, by simpa using tab_all (q := fun _ fn => !(fn.name == "runtime.NumGoroutine")) h2 g fn hg⟩
  meth := fun t m g hg v w => by
    have key : ∀ l : List (Nat × String × Nat), l.map (fun e => methOf P e.1 e.2.1) = l.map (fun e => some e.2.2) → ∀ e ∈ l, methOf P e.1 e.2.1 = some e.2.2 := by
      intro l
      induction l with
      | nil => intro _ x hx; cases hx
      | cons y ys ih =>
        intro hl x hx
        simp only [List.map_cons, List.cons.injEq] at hl
        rcases List.mem_cons.1 hx with rfl | hx
        · exact hl.1
        · exact ih hl.2 x hx
    exact methOf_ok (methL_ok (key ms h4) hg) v w
  mixed := h5
  prim := fun g p args v hp hv r m w f G h args' i hs ha => by
    change (bif g.beq sq then some sqrtP else none) = some p at hp
    cases hb : g.beq sq with
    | false => rw [hb] at hp; cases hp
    | true =>
      rw [hb] at hp
      cases hp
      rw [Nat.eq_of_beq_eq_true hb]
      exact sqrtP_ok h6 args v hv r m w f G h args' i hs ha
  spec := fun g p args v hp => by cases hp
end Go.Ev
end
