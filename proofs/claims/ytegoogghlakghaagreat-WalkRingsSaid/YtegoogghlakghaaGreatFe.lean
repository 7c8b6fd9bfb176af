/- By an AI agent. What is proved here: runs carried over to states that say more, loops by induction over families of states. -/
import Derived.Test.YtegoogghlakghaaGreatFc
import Derived.Test.YtegoogghlakghaaGreatFd
section
set_option linter.unusedVariables false
set_option linter.unusedSimpArgs false
namespace Go.Ev
variable {P : Program} {cx : Cx}
/-! ### A run carried over to a state that says more, blocks renamed -/
/-- the blocks of 'f' under the names that 't' gives them in 'f2' -/
def Ren (t : Nat → Option Nat) (f2 f : FM) : Prop := ∀ b c, t b = some c → ∀ y, f c = some y → f2 b = some y
/-- what is told by 'v' tells 'v2', too -/
def WkV (t : Nat → Option Nat) (v2 v : V) : Prop := ∀ (w : World) (f f2 : FM) (G : GM) (x : Value), Ren t f2 f → VR w f G v x → VR w f2 G v2 x
def WkL (t : Nat → Option Nat) (l2 l : List V) : Prop := l2.length = l.length ∧ ∀ (i : Nat) (v2 v : V), l2[i]? = some v2 → l[i]? = some v → WkV t v2 v
def Ob.lv : Ob → Bool
  | .dead => false
  | _ => true
def WkO (t : Nat → Option Nat) (o2 o : Ob) : Prop := (o2.lv = true → o.lv = true) ∧ ∀ (w : World) (f f2 : FM) (G : GM) (k s z : Nat), Ren t f2 f → OR w f G k s z o → OR w f2 G k s z o2
theorem live_iff {h : Hp} {b : Nat} : live h b ↔ ∃ o, h.get b = some o ∧ o.lv = true := by
  unfold live
  constructor
  · rintro ⟨o, h1, h2⟩
    refine ⟨o, h1, ?_⟩
    cases o <;> simp_all [Ob.lv]
  · rintro ⟨o, h1, h2⟩
    refine ⟨o, h1, ?_⟩
    cases o <;> simp_all [Ob.lv]
theorem WkL.vrs {t : Nat → Option Nat} {l2 l : List V} (h : WkL t l2 l) {w : World} {f f2 : FM} {G : GM} {g : Nat → Option Value} (hr : Ren t f2 f) (hv : VRs w f G l g) : VRs w f2 G l2 g := by
  rw [VRs_iff] at hv ⊢
  intro i v2 hi
  have hlt : i < l.length := by rw [← h.1]; exact (List.getElem?_eq_some_iff.1 hi).1
  obtain ⟨u, hu, hx⟩ := hv i l[i] (List.getElem?_eq_getElem hlt)
  exact ⟨u, hu, h.2 i v2 l[i] hi (List.getElem?_eq_getElem hlt) w f f2 G u hr hx⟩
theorem Runs.mono {n : Nat} {c : Code} {F : Fence} {m : Nat} {Q Q' : Exit → Act → World → Prop} {a : Act} {w : World} (hq : ∀ x a w, Q x a w → Q' x a w) (h : Runs n c F m P Q a w) : Runs n c F m P Q' a w := by
  unfold Runs at h ⊢
  split at h
  · exact roundsIn_mono hq h
  · exact wpIn_mono h fun x a w hp => hq x a w hp
/-- 'sN' says no more than 's' does, when block j of 'sN' is called 'ro j' in 's' -/
structure Fwd (ro : Nat → Nat) (s sN : St) : Prop where
  lt : ∀ j, j < sN.h.next → ro j < s.h.next
  inj : ∀ i j, i < sN.h.next → j < sN.h.next → ro i = ro j → i = j
  tm : WkL (fun j => if j < sN.h.next then some (ro j) else none) sN.tm s.tm
  ob : ∀ j, j < sN.h.next → ∃ oN o, sN.h.get j = some oN ∧ s.h.get (ro j) = some o ∧ oN.lv = true ∧ WkO (fun j => if j < sN.h.next then some (ro j) else none) oN o
  loop : ∀ b lp, b < s.h.next → s.h.get b = some (.loop lp) → ∃ j, j < sN.h.next ∧ ro j = b ∧ ∃ lp', sN.h.get j = some (.loop lp')
/-- 's2' says no more than 'sN2' does, which came of 'sN', when block b of 's2' is called 'ta b' in 'sN2'; 's1', of which 'sN' tells, came of 's' -/
structure Bwd (ro : Nat → Nat) (ta : Nat → Option Nat) (s s1 sN sN2 s2 : St) : Prop where
  old : ∀ b j, b < s.h.next → ta b = some j → j < sN.h.next ∧ ro j = b
  new : ∀ b j, s.h.next ≤ b → ta b = some j → b < s2.h.next
  inj : ∀ b b' j, ta b = some j → ta b' = some j → b = b'
  tm : WkL ta s2.tm sN2.tm
  kept : ∀ b o, b < s.h.next → ta b = none → s2.h.get b = some o → o = .dead ∨ (s1.h.get b = some o ∧ (∀ j, j < sN.h.next → ro j ≠ b) ∧ WkO (fun c => if c < s.h.next then some c else none) o o)
  ob : ∀ b j o, ta b = some j → s2.h.get b = some o → o = .dead ∨ ∃ oN, sN2.h.get j = some oN ∧ WkO ta o oN
  next : s.h.next ≤ s2.h.next
  low : s2.h.low = 0
  loop : ∀ b lp, b < s.h.next → s.h.get b = some (.loop lp) → ∃ lp', s2.h.get b = some (.loop lp')
theorem KeepL.of_bwd {ro : Nat → Nat} {ta : Nat → Option Nat} {s s1 sN sN2 s2 : St} (hb : Bwd ro ta s s1 sN sN2 s2) : KeepL s.h s2.h :=
  ⟨hb.next, hb.loop, by rw [hb.low]; exact Nat.zero_le _, fun b _ hl => absurd hl (by rw [hb.low]; exact Nat.not_lt_zero _)⟩
/-- what is left behind by the second of two codes, told from the first one's beginning -/
theorem PostC.carry {n : Nat} {c : Code} {e : Out} {ro : Nat → Nat} {ta : Nat → Option Nat} {s s1 sN sN2 s2 : St} (hf : Fwd ro s1 sN) (hb : Bwd ro ta s s1 sN sN2 s2) (hS : CodeS P n c sN e sN2)
    {r : Option Nat} {m : Nat} {w w1 : World} {f f1 : FM} {G G1 : GM} {a1 : Act} {ds ms1 : List Deferred} (i : Inv w f G s.h) (st1 : Stp w f G s.h w1 f1 G1 s1.h) (i1 : Inv w1 f1 G1 s1.h) (ha : ActR w1 f1 G1 s1.tm a1) (hd1 : a1.defers = ms1 ++ ds)
    (mk1 : Marks w.heap.size w1 f1 G1 ms1) (ro1 : RoundOk f1 s1.h r) : Runs n c (Fr r) m P (PostC w f G s ds e s2) a1 w1 := by
  let fN : FM := fun j => if j < sN.h.next then f1 (ro j) else none
  have fNi : ∀ j, j < sN.h.next → fN j = f1 (ro j) := fun j hj => by simp only [fN, if_pos hj]
  have fNs : ∀ j y, fN j = some y → j < sN.h.next ∧ f1 (ro j) = some y := fun j y e => by
    simp only [fN] at e
    split at e
    · rename_i hj; exact ⟨hj, e⟩
    · cases e
  have rf : Ren (fun j => if j < sN.h.next then some (ro j) else none) fN f1 := fun j c e y ey => by
    simp only [] at e
    split at e
    · rename_i hj; cases e; rw [fNi j hj, ey]
    · cases e
  have lvs : ∀ j, j < sN.h.next → live s1.h (ro j) ∧ live sN.h j := fun j hj => by
    obtain ⟨oN, o, h1, h2, h3, h4⟩ := hf.ob j hj
    exact ⟨live_iff.2 ⟨o, h2, h4.1 h3⟩, live_iff.2 ⟨oN, h1, h3⟩⟩
  have iN : Inv w1 fN G1 sN.h := by
    refine ⟨fun b y e => (fNs b y e).1, fun b k s1 z e => i1.rng (ro b) k s1 z (fNs b _ e).2, fun b b' k s1 z s2 z' e e' hne => ?_, i1.gin, i1.gup, fun b k s1 z o e hg => ?_⟩
    · obtain ⟨h1, h2⟩ := fNs b _ e
      obtain ⟨h1', h2'⟩ := fNs b' _ e'
      have := i1.inj (ro b) (ro b') k s1 z s2 z' h2 h2' fun er => hne (hf.inj _ _ h1 h1' er)
      exact absurd ⟨(lvs b h1).1, (lvs b' h1').1⟩ this
    · obtain ⟨h1, h2⟩ := fNs b _ e
      obtain ⟨oN, o', g1, g2, g3, g4⟩ := hf.ob b h1
      rw [hg] at g1
      cases g1
      exact g4.2 w1 f1 fN G1 k s1 z rf (i1.rel (ro b) k s1 z o' h2 g2)
  have aN : ActR w1 fN G1 sN.tm a1 := ⟨by rw [ha.1, hf.tm.1], hf.tm.vrs rf ha.2⟩
  have roN : RoundOk fN sN.h r := fun l e => by
    obtain ⟨b, s1, z, lp, h1, h2, h3⟩ := ro1 l e
    obtain ⟨j, hj, hr, lp', h4⟩ := hf.loop b lp h2 h3
    exact ⟨j, s1, z, lp', by rw [fNi j hj, hr]; exact h1, hj, h4⟩
  refine Runs.mono (fun x a' w' hp => ?_) (hS.2 r m w1 fN G1 a1 iN aN roN)
  obtain ⟨hx, fN', G', ms, st, iN', aN', hd, hm⟩ := hp
  let f2 : FM := fun b => if b < s.h.next then f b else (ta b).bind fN'
  have f2o : ∀ b, b < s.h.next → f2 b = f b := fun b hb => by simp only [f2, if_pos hb]
  have f2n : ∀ b, s.h.next ≤ b → f2 b = (ta b).bind fN' := fun b hb => by simp only [f2]; rw [if_neg (by omega)]
  have f1o : ∀ b, b < s.h.next → ∀ y, f1 b = some y ↔ f b = some y := fun b hlt y => by
    constructor
    · intro e
      cases e0 : f b with
      | some y0 => have := st1.fle _ _ e0; rw [e] at this; exact this.symm
      | none => obtain ⟨k, s1, z⟩ := y; have := (st1.fnew b k s1 z e e0).1; omega
    · exact fun e => st1.fle _ _ e
  have fN'o : ∀ j y, j < sN.h.next → (fN' j = some y ↔ f1 (ro j) = some y) := fun j y hj => by
    rw [← fNi j hj]
    constructor
    · intro e
      cases e0 : fN j with
      | some y0 =>
        have := st.fle _ _ e0
        rw [e] at this; exact this.symm
      | none =>
        obtain ⟨k, s1, z⟩ := y
        have := (st.fnew j k s1 z e e0).1
        omega
    · exact fun e => st.fle _ _ e
  -- a block of s2 that has a name in sN2
  have cA : ∀ b j y, ta b = some j → (f2 b = some y ↔ fN' j = some y) := fun b j y ht => by
    by_cases hlt : b < s.h.next
    · obtain ⟨hj, hr⟩ := hb.old b j hlt ht
      rw [f2o b hlt, fN'o j y hj, hr, f1o b hlt]
    · rw [f2n b (by omega), ht]; rfl
  have cB : ∀ b y, ta b = none → f2 b = some y → b < s.h.next ∧ f b = some y := fun b y ht e => by
    by_cases hlt : b < s.h.next
    · exact ⟨hlt, by rw [← f2o b hlt]; exact e⟩
    · rw [f2n b (by omega), ht] at e; cases e
  have rb : Ren ta f2 fN' := fun b j ht y ey => (cA b j y ht).2 ey
  have fle : FLe f f2 := fun b y e => by rw [f2o b (i.dom b y e)]; exact e
  -- a machine's block that a block without a name has is no named block's
  have sep : ∀ b b0 k s1' z s0 z0, b < s.h.next → (∀ j, j < sN.h.next → ro j ≠ b) → f b = some (k, s1', z) → live s1.h b → fN b0 = some (k, s0, z0) → False := fun b b0 k s1' z s0 z0 hlt hn e hlv e0 => by
    obtain ⟨h1, h2⟩ := fNs b0 _ e0
    exact i1.inj b (ro b0) k s1' z s0 z0 (st1.fle _ _ e) h2 (fun er => hn b0 h1 er.symm) ⟨hlv, (lvs b0 h1).1⟩
  have lvB : ∀ b, b < s.h.next → ta b = none → live s2.h b → live s1.h b ∧ ∀ j, j < sN.h.next → ro j ≠ b := fun b hlt ht hl => by
    obtain ⟨o, h1, h2⟩ := live_iff.1 hl
    rcases hb.kept b o hlt ht h1 with rfl | ⟨h3, h4, _⟩
    · cases h2
    · exact ⟨live_iff.2 ⟨o, h3, h2⟩, h4⟩
  have lvA : ∀ b j, ta b = some j → live s2.h b → live sN2.h j := fun b j ht hl => by
    obtain ⟨o, h1, h2⟩ := live_iff.1 hl
    rcases hb.ob b j o ht h1 with rfl | ⟨oN, h3, h4⟩
    · cases h2
    · exact live_iff.2 ⟨oN, h3, h4.1 h2⟩
  have gk : GKept G1 w1 w' := st.gkept iN
  have st3 : GLe G G' := st1.gle.trans st.gle
  have i2 : Inv w' f2 G' s2.h := by
    refine ⟨fun b y e => ?_, fun b k s1 z e => ?_, fun b b' k s1 z s1' z' e e' hne => ?_, iN'.gin, iN'.gup, fun b k s1' z o e hg => ?_⟩
    · cases ht : ta b with
      | none => exact Nat.lt_of_lt_of_le (cB b y ht e).1 hb.next
      | some j =>
        by_cases hlt : b < s.h.next
        · exact Nat.lt_of_lt_of_le hlt hb.next
        · exact hb.new b j (by omega) ht
    · cases ht : ta b with
      | none =>
        obtain ⟨h1, h2⟩ := cB b _ ht e
        obtain ⟨g1, g2⟩ := i1.rng b k s1 z (st1.fle _ _ h2)
        refine ⟨Nat.lt_of_lt_of_le g1 st.size, fun β hg => ?_⟩
        rcases st.gnew β k hg with h | h
        · exact g2 β h
        · omega
      | some j => exact iN'.rng j k s1 z ((cA b j _ ht).1 e)
    · rintro ⟨l1, l2⟩
      have AB : ∀ b b' j s1' z s2' z', ta b = some j → fN' j = some (k, s1', z) → ta b' = none → b' < s.h.next → f b' = some (k, s2', z') → live s2.h b' → False := fun b b' j s1' z s2' z' ht e ht' hlt e' hl' => by
        obtain ⟨g1, g2⟩ := lvB b' hlt ht' hl'
        cases e0 : fN j with
        | some y =>
          have := st.fle _ _ e0
          rw [e] at this; cases this
          exact sep b' j k s2' z' s1' z hlt g2 e' g1 e0
        | none =>
          obtain ⟨_, h | ⟨b0, s0, z0, h, _⟩⟩ := st.fnew j k s1' z e e0
          · have := (i1.rng b' k s2' z' (st1.fle _ _ e')).1; omega
          · exact sep b' b0 k s2' z' s0 z0 hlt g2 e' g1 h
      cases ht : ta b with
      | none =>
        obtain ⟨h1, h2⟩ := cB b _ ht e
        cases ht' : ta b' with
        | none =>
          obtain ⟨h1', h2'⟩ := cB b' _ ht' e'
          exact i1.inj b b' k s1 z s1' z' (st1.fle _ _ h2) (st1.fle _ _ h2') hne ⟨(lvB b h1 ht l1).1, (lvB b' h1' ht' l2).1⟩
        | some j' => exact AB b' b j' s1' z' s1 z ht' ((cA b' j' _ ht').1 e') ht h1 h2 l1
      | some j =>
        cases ht' : ta b' with
        | none =>
          obtain ⟨h1', h2'⟩ := cB b' _ ht' e'
          exact AB b b' j s1 z s1' z' ht ((cA b j _ ht).1 e) ht' h1' h2' l2
        | some j' =>
          have hj : j ≠ j' := fun ej => by subst ej; exact hne (hb.inj b b' j ht ht')
          exact iN'.inj j j' k s1 z s1' z' ((cA b j _ ht).1 e) ((cA b' j' _ ht').1 e') hj ⟨lvA b j ht l1, lvA b' j' ht' l2⟩
    · cases ht : ta b with
      | none =>
        obtain ⟨h1, h2⟩ := cB b _ ht e
        rcases hb.kept b o h1 ht hg with rfl | ⟨h3, h4, h6⟩
        · simp only [OR]
        · cases hl : o.lv with
          | false => cases o <;> simp_all [Ob.lv, OR]
          | true =>
            have hlv : live s1.h b := live_iff.2 ⟨o, h3, hl⟩
            have h5 : OR w1 f1 G1 k s1' z o := i1.rel b k s1' z o (st1.fle _ _ h2) h3
            have hk : w'.heap[k]? = w1.heap[k]? := st.old k (i1.rng b k s1' z (st1.fle _ _ h2)).1 fun b0 s0 z0 e0 => (sep b b0 k s1' z s0 z0 h1 h4 h2 hlv e0).elim
            have rid : Ren (fun c => if c < s.h.next then some c else none) f2 f1 := fun c c' ec y ey => by
              simp only [] at ec
              split at ec
              · rename_i hc; cases ec; rw [f2o c hc]; exact (f1o c hc y).1 ey
              · cases ec
            exact OR.mono (FLe.refl _) st.gle gk hk (h6.2 w1 f1 f2 G1 k s1' z rid h5)
      | some j =>
        rcases hb.ob b j o ht hg with rfl | ⟨oN, h3, h4⟩
        · simp only [OR]
        · exact h4.2 w' fN' f2 G' k s1' z rb (iN'.rel j k s1' z oN ((cA b j _ ht).1 e) h3)
  have a2 : ActR w' f2 G' s2.tm a' := ⟨by rw [aN'.1, hb.tm.1], hb.tm.vrs rb aN'.2⟩
  have st2 : Stp w f G s.h w' f2 G' s2.h := by
    refine ⟨st.os.trans st1.os, st.tape.trans st1.tape, st.output.trans st1.output, Nat.le_trans st1.size st.size, fle, fun b k s1' z e e0 => ?_, st3, fun β k hk => ?_, hb.next, by rw [hb.low]; exact Nat.zero_le _, fun b _ hl => absurd hl (by rw [hb.low]; exact Nat.not_lt_zero _), fun k hk hn => ?_, st1.sk.trans st.sk⟩
    · cases ht : ta b with
      | none => rw [(cB b _ ht e).2] at e0; cases e0
      | some j =>
        have hge : s.h.next ≤ b := by
          rcases Nat.lt_or_ge b s.h.next with h | h
          · rw [f2o b h, e0] at e; cases e
          · exact h
        refine ⟨hge, ?_⟩
        have e1 := (cA b j _ ht).1 e
        have back : ∀ b0 s0 z0, f1 b0 = some (k, s0, z0) → w.heap.size ≤ k ∨ ∃ b0 s0 z0, f b0 = some (k, s0, z0) ∧ s2.h.low ≤ b0 := fun b0 s0 z0 e0 => by
          cases e4 : f b0 with
          | some y => have := st1.fle _ _ e4; rw [e0] at this; cases this; exact .inr ⟨b0, s0, z0, e4, by rw [hb.low]; exact Nat.zero_le _⟩
          | none =>
            rcases (st1.fnew b0 k s0 z0 e0 e4).2 with h | ⟨b5, s5, z5, h, _⟩
            · exact .inl h
            · exact .inr ⟨b5, s5, z5, h, by rw [hb.low]; exact Nat.zero_le _⟩
        cases e2 : fN j with
        | some y =>
          have := st.fle _ _ e2
          rw [e1] at this; cases this
          exact back _ _ _ (fNs j _ e2).2
        | none =>
          rcases (st.fnew j k s1' z e1 e2).2 with h | ⟨b0, s0, z0, h, _⟩
          · exact .inl (Nat.le_trans st1.size h)
          · exact back _ _ _ (fNs b0 _ h).2
    · rcases st.gnew β k hk with h | h
      · exact st1.gnew β k h
      · exact .inr (Nat.le_trans st1.size h)
    · have hn' : ∀ b s1' z, f b ≠ some (k, s1', z) := fun b s1' z e => by
        have := hn b s1' z e; rw [hb.low] at this; omega
      have h1 : w1.heap[k]? = w.heap[k]? := st1.old k hk fun b s1' z e => absurd e (hn' b s1' z)
      rw [st.old k (Nat.lt_of_lt_of_le hk st1.size) fun b0 s0 z0 e0 => ?_, h1]
      have e4 := (fNs b0 _ e0).2
      cases e5 : f (ro b0) with
      | some y => have := st1.fle _ _ e5; rw [e4] at this; cases this; exact absurd e5 (hn' _ _ _)
      | none =>
        rcases (st1.fnew _ k s0 z0 e4 e5).2 with h | ⟨b5, s5, z5, h, _⟩
        · omega
        · exact absurd h (hn' _ _ _)
  have mkf : ∀ (q : Nat), w.heap.size ≤ q → (∀ b s z, fN' b ≠ some (q, s, z)) → ∀ b s z, f2 b ≠ some (q, s, z) := fun q hq hn b s1' z e => by
    cases ht : ta b with
    | none => have := (i.rng b q s1' z (cB b _ ht e).2).1; omega
    | some j => exact hn j s1' z ((cA b j _ ht).1 e)
  have key : ∀ base, w.heap.size ≤ base → ∀ ds, Marks base w' fN' G' ds → Marks base w' f2 G' ds := by
    intro base hbase ds
    induction ds with
    | nil => exact fun _ => trivial
    | cons d ds ih =>
      rintro ⟨⟨q, h1, h2, h3, h4, h5, h6⟩, hm⟩
      exact ⟨⟨q, h1, h2, h3, mkf q (Nat.le_trans hbase h2) h4, h5, h6⟩, ih hm⟩
  -- the marks of the first code, told of the second one's blocks
  have mkN : ∀ ds, Marks w.heap.size w1 f1 G1 ds → Marks w.heap.size w1 fN G1 ds := by
    intro ds
    induction ds with
    | nil => exact fun _ => trivial
    | cons d ds ih =>
      rintro ⟨⟨q, h1, h2, h3, h4, h5, h6⟩, hm⟩
      exact ⟨⟨q, h1, h2, h3, fun b s1' z e => h4 _ _ _ (fNs b _ e).2, h5, h6⟩, ih hm⟩
  refine ⟨hx, f2, G', ms ++ ms1, st2, i2, a2, by rw [hd, hd1, List.append_assoc], ?_⟩
  refine Marks.append (b1 := w1.heap.size) (key _ st1.size _ hm) (key _ (Nat.le_refl _) _ ((mkN _ mk1).step st)) st1.size fun d hdm r0 hr0 => ?_
  obtain ⟨r2, h1, _, h2⟩ := mk1.mem d hdm
  rw [hr0] at h1
  cases h1
  exact h2
/-- two codes, one behind the other: the first is told of, and the second from a state of its own -/
theorem CodeS.carry2 {n : Nat} {c1 c : Code} {e : Out} {ro : Nat → Nat} {ta : Nat → Option Nat} {s s1 sN sN2 s2 : St} (h1 : CodeS P n c1 s .normal s1) (hf : Fwd ro s1 sN) (hb : Bwd ro ta s s1 sN sN2 s2) (hS : CodeS P n c sN e sN2)
    {r : Option Nat} {m : Nat} {w : World} {f : FM} {G : GM} {a : Act} (i : Inv w f G s.h) (ha : ActR w f G s.tm a) (hr : RoundOk f s.h r) :
    Runs n c1 (Fr r) m P (fun x a1 w1 => x = .normal ∧ Runs n c (Fr r) m P (PostC w f G s a.defers e s2) a1 w1) a w :=
  Runs.mono (fun x a1 w1 ⟨hx, f1, G1, ms1, st1, i1, a1r, hd1, mk1⟩ => ⟨hx, PostC.carry hf hb hS i st1 i1 a1r hd1 mk1 (hr.step st1.fle h1.1)⟩) (h1.2 r m w f G a i ha hr)
/-- a run carried over to a state that says more -/
theorem CodeS.carry {n : Nat} {c : Code} {e : Out} {ro : Nat → Nat} {ta : Nat → Option Nat} {s sN sN2 s2 : St} (hf : Fwd ro s sN) (hb : Bwd ro ta s s sN sN2 s2) (hS : CodeS P n c sN e sN2) : CodeS P n c s e s2 :=
  ⟨.of_bwd hb, fun r m w f G a i ha hr => PostC.carry hf hb hS (ms1 := []) i (Stp.refl ..) i ha rfl trivial hr⟩
/-- a loop's round, and the rest of the loop -/
theorem CodeS.loop {n : Nat} {c : Code} {e : Out} {ro : Nat → Nat} {ta : Nat → Option Nat} {s s1 sN sN2 s2 : St} (h1 : CodeS P n c s .normal s1) (hf : Fwd ro s1 sN) (hb : Bwd ro ta s s1 sN sN2 s2) (hS : CodeS P n (.loop c) sN e sN2) : CodeS P (n + 1) (.loop c) s e s2 :=
  ⟨.of_bwd hb, fun r m w f G a i ha hr => by
    show Code.roundsIn _ _ _ _ _ (n + 1) _ _
    rw [roundsIn_succ]
    refine wpIn_mono (CodeS.carry2 h1 hf hb hS i ha hr).wp fun x a1 w1 hp => ?_
    obtain ⟨hx, hp⟩ := hp
    subst hx
    exact hp⟩
end Go.Ev
end

section
set_option linter.unusedVariables false
set_option linter.unusedSimpArgs false
namespace Go.Ev
variable {P : Program} {cx : Cx} {en : En}
/-! ### Loops that keep their blocks: induction over a family of states -/
theorem Evs.loop {ro : Nat → Nat} {ta : Nat → Option Nat} {s s1 sN sN2 s2 : St} {B : Code} {e : Out} (h1 : Evs cx (.code B s) (.out .normal s1)) (hf : Fwd ro s1 sN) (hb : Bwd ro ta s s1 sN sN2 s2)
    (h2 : Evs cx (.code (.loop B) sN) (.out e sN2)) : Evs cx (.code (.loop B) s) (.out e s2) := fun P hc => by
  obtain ⟨n1, g1⟩ := h1 P hc
  obtain ⟨n2, g2⟩ := h2 P hc
  refine ⟨max n1 n2 + 1, fun n hn => ?_⟩
  obtain ⟨k, rfl⟩ : ∃ k, n = k + 1 := ⟨n - 1, by omega⟩
  exact CodeS.loop (g1 k (by omega)) hf hb (g2 k (by omega))
theorem Evs.carry {ro : Nat → Nat} {ta : Nat → Option Nat} {s sN sN2 s2 : St} {c : Code} {e : Out} (hf : Fwd ro s sN) (hb : Bwd ro ta s s sN sN2 s2) (h : Evs cx (.code c sN) (.out e sN2)) : Evs cx (.code c s) (.out e s2) := fun P hc => by
  obtain ⟨n1, g1⟩ := h P hc
  exact ⟨n1, fun n hn => CodeS.carry hf hb (g1 n hn)⟩
theorem Evs.loop_out {s s1 : St} {B : Code} {e : Out} (h : Evs cx (.code B s) (.out e s1)) (he : e ≠ .normal) : Evs cx (.code (.loop B) s) (.out e s1) := by
  refine .of_step ⟨_, h, ?_⟩
  cases e with
  | normal => exact absurd rfl he
  | _ => rfl
def isC (a b : Code) : Prop := a = b
def subC : List Nat → Code → Code
  | [], c => c
  | d :: p, .seq a b => subC p (match d with | 0 => a | _ => b)
  | _ :: p, .block _ c => subC p c
  | _ :: p, .loop c => subC p c
  | _ :: p, .scope c => subC p c
  | d :: p, .cond _ a b => subC p (match d with | 0 => a | _ => b)
  | d :: p, .rangeFunc _ _ a b => subC p (match d with | 0 => a | _ => b)
  | _, c => c
def bodyC (fn : Func) : Code := match fn.body with | some c => c | none => .skip
/-- what happens to a round of a loop -/
def onLoopW (X : St → Prop) (Q : Rs → Prop) : Rs → Prop
  | .out .normal s => X s
  | r => Q r
/-! #### values of blocks below m -/
mutual
def V.low (m : Nat) : V → Bool
  | .ptr b _ _ => b.blt m
  | .sl b _ _ _ _ => b.blt m
  | .map b => b.blt m
  | .yld b => b.blt m
  | .agg cs => V.lows m cs
  | .tup vs => V.lows m vs
  | .ifc _ v => v.low m
  | .fn _ f c => V.lows m f && V.lows m c
  | _ => true
def V.lows (m : Nat) : List V → Bool
  | [] => true
  | v :: vs => v.low m && V.lows m vs
end
def idn (m : Nat) : Nat → Option Nat := fun j => if j < m then some j else none
theorem blt_lt {a b : Nat} (h : a.blt b = true) : a < b := by simpa [Nat.blt_eq] using h
mutual
theorem VR.low {w : World} {m : Nat} {f f2 : FM} {G : GM} (hr : Ren (idn m) f2 f) : ∀ (v : V) {x : Value}, v.low m = true → VR w f G v x → VR w f2 G v x
  | .ptr b i j, x, hb, h => by
    simp only [VR] at h ⊢
    obtain ⟨k, s, z, h1, h2⟩ := h
    exact ⟨k, s, z, hr b b (by simp only [idn]; rw [if_pos (blt_lt hb)]) _ h1, h2⟩
  | .sl b o n z c, x, hb, h => by
    simp only [VR] at h ⊢
    obtain ⟨k, s, c', a, h1, h2⟩ := h
    exact ⟨k, s, c', a, hr b b (by simp only [idn]; rw [if_pos (blt_lt hb)]) _ h1, h2⟩
  | .map b, x, hb, h => by
    simp only [VR] at h ⊢
    obtain ⟨k, s, z, h1, h2⟩ := h
    exact ⟨k, s, z, hr b b (by simp only [idn]; rw [if_pos (blt_lt hb)]) _ h1, h2⟩
  | .yld b, x, hb, h => by
    simp only [VR] at h ⊢
    obtain ⟨k, s, z, h1, h2⟩ := h
    exact ⟨k, s, z, hr b b (by simp only [idn]; rw [if_pos (blt_lt hb)]) _ h1, h2⟩
  | .agg cs, x, hb, h => by
    simp only [VR] at h ⊢
    obtain ⟨c', h1, h2, h3, h4⟩ := h
    exact ⟨c', h1, h2, h3, VRs.low hr cs (by simpa [V.low] using hb) h4⟩
  | .tup cs, x, hb, h => by
    simp only [VR] at h ⊢
    obtain ⟨c', h1, h2, h4⟩ := h
    exact ⟨c', h1, h2, VRs.low hr cs (by simpa [V.low] using hb) h4⟩
  | .ifc t v, x, hb, h => by
    simp only [VR] at h ⊢
    obtain ⟨u, h1, h2⟩ := h
    exact ⟨u, h1, VR.low hr v (by simpa [V.low] using hb) h2⟩
  | .fn g a c, x, hb, h => by
    simp only [V.low, Bool.and_eq_true] at hb
    simp only [VR] at h ⊢
    obtain ⟨a', c', h1, h2, h3, h4, h5⟩ := h
    exact ⟨a', c', h1, h2, h3, VRs.low hr a hb.1 h4, VRs.low hr c hb.2 h5⟩
  | .bool _, x, hb, h => by simpa only [VR] using h
  | .int _ _, x, hb, h => by simpa only [VR] using h
  | .flt _ _, x, hb, h => by simpa only [VR] using h
  | .str _, x, hb, h => by simpa only [VR] using h
  | .pnil, x, hb, h => by simpa only [VR] using h
  | .ipt _ _ _, x, hb, h => by simpa only [VR] using h
  | .snil, x, hb, h => by simpa only [VR] using h
  | .imm _ _ _ _, x, hb, h => by simpa only [VR] using h
  | .mnil, x, hb, h => by simpa only [VR] using h
  | .fnil, x, hb, h => by simpa only [VR] using h
  | .inil, x, hb, h => by simpa only [VR] using h
  | .any, x, hb, h => by simpa only [VR] using h
theorem VRs.low {w : World} {m : Nat} {f f2 : FM} {G : GM} (hr : Ren (idn m) f2 f) : ∀ (vs : List V) {g : Nat → Option Value}, V.lows m vs = true → VRs w f G vs g → VRs w f2 G vs g
  | [], g, _, _ => by simp only [VRs]
  | v :: vs, g, hb, h => by
    simp only [V.lows, Bool.and_eq_true] at hb
    simp only [VRs] at h ⊢
    obtain ⟨⟨u, h1, h2⟩, h3⟩ := h
    exact ⟨⟨u, h1, VR.low hr v hb.1 h2⟩, VRs.low hr vs hb.2 h3⟩
end
theorem VRr.low {w : World} {m : Nat} {f f2 : FM} {G : GM} (hr : Ren (idn m) f2 f) {z : Nat} : ∀ {rows : List (List V)} {g : Nat → Option Value}, (∀ r ∈ rows, V.lows m r = true) → VRr w f G z rows g → VRr w f2 G z rows g
  | [], g, _, _ => by simp only [VRr]
  | r :: rs, g, hb, h => by
    simp only [VRr] at h ⊢
    exact ⟨h.1, h.2.1, VRs.low hr r (hb r (by simp)) h.2.2.1, VRr.low hr (fun r' hr' => hb r' (by simp [hr'])) h.2.2.2⟩
theorem ME.low {w : World} {m : Nat} {f f2 : FM} {G : GM} (hr : Ren (idn m) f2 f) : ∀ {es : List (V × V)} {l : List MapEntry}, (∀ e ∈ es, e.1.low m = true ∧ e.2.low m = true) → ME w f G es l → ME w f2 G es l
  | [], [], _, _ => trivial
  | (k, v) :: es, e :: l, hb, h => by
    obtain ⟨h1, h2⟩ := hb (k, v) (by simp)
    exact ⟨VR.low hr k h1 h.1, VR.low hr v h2 h.2.1, ME.low hr (fun e he => hb e (by simp [he])) h.2.2⟩
  | [], _ :: _, _, h => h
  | (_, _) :: _, [], _, h => h
/-- a block's contents know blocks below m alone; it is no loop's record -/
def Ob.low (m : Nat) : Ob → Prop
  | .cells rows _ => ∀ r ∈ rows, V.lows m r = true
  | .map es => ∀ e ∈ es, e.1.low m = true ∧ e.2.low m = true
  | .loop _ => False
  | .dead => True
theorem wk_low {m : Nat} {o : Ob} (h : o.low m) : WkO (idn m) o o := by
  refine ⟨fun h => h, fun w f f2 G k s z hr ho => ?_⟩
  cases o with
  | cells rows z' =>
    simp only [OR] at ho ⊢
    obtain ⟨h1, cc, e, fr, h2, h3, h4⟩ := ho
    exact ⟨h1, cc, e, fr, h2, h3, VRr.low hr h h4⟩
  | map es =>
    simp only [OR] at ho ⊢
    obtain ⟨es', clock, h1, h2⟩ := ho
    exact ⟨es', clock, h1, ME.low hr h h2⟩
  | loop l => exact h.elim
  | dead => simp only [OR]
/-- all that is kept of a value of which nothing is to be known -/
def V.shed : V → V
  | .bool b => .bool b
  | _ => .any
theorem wk_shed (t : Nat → Option Nat) (v : V) : WkV t v.shed v := fun w f f2 G x hr h => by
  cases v <;> simp only [VR] at h <;> simp only [V.shed, VR]
  all_goals first
    | exact h
    | (intro b; subst h; simp; done)
    | (intro b; obtain ⟨_, _, _, _, rfl⟩ := h; simp; done)
    | (intro b; obtain ⟨_, _, _, _, rfl, _⟩ := h; simp; done)
    | (intro b; obtain ⟨_, _, _, _, _, rfl, _⟩ := h; simp; done)
    | (intro b; obtain ⟨_, _, _, _, _, _, rfl, _⟩ := h; simp; done)
    | (intro b; obtain ⟨_, _, rfl, _⟩ := h; simp; done)
    | (intro b; obtain ⟨_, rfl, _⟩ := h; simp; done)
/-- temporaries: what is told, and in the other places whatever is there -/
def fr : List (Option V) → Nat → (Nat → V) → List V
  | [], _, _ => []
  | some v :: l, i, g => v :: fr l (i + 1) g
  | none :: l, i, g => g i :: fr l (i + 1) g
/-- temporaries are as is told, of blocks below m -/
def frOk (m : Nat) : List (Option V) → List V → Prop
  | [], [] => True
  | some v :: l, u :: us => (u = v ∧ v.low m = true) ∧ frOk m l us
  | none :: l, _ :: us => frOk m l us
  | _, _ => False
theorem fr_len : ∀ (l : List (Option V)) (i : Nat) (g : Nat → V), (fr l i g).length = l.length
  | [], _, _ => rfl
  | some v :: l, i, g => by simp only [fr, List.length_cons, fr_len l]
  | none :: l, i, g => by simp only [fr, List.length_cons, fr_len l]
theorem frOk_wk {m : Nat} : ∀ (l : List (Option V)) (us : List V) (i : Nat) (g : Nat → V), frOk m l us → (∀ j v, us[j]? = some v → g (i + j) = v.shed) → WkL (idn m) (fr l i g) us
  | [], [], _, _, _, _ => ⟨rfl, fun j v2 v h => by simp [fr] at h⟩
  | some v :: l, u :: us, i, g, h, hg => by
    obtain ⟨⟨rfl, hb⟩, h⟩ := h
    obtain ⟨h1, h2⟩ := frOk_wk l us (i + 1) g h fun j v hj => by rw [← hg (j + 1) v (by simpa using hj)]; congr 1; omega
    refine ⟨by simp only [fr, List.length_cons, h1], fun j v2 v e2 e => ?_⟩
    cases j with
    | zero =>
      simp only [fr, List.getElem?_cons_zero, Option.some.injEq] at e2 e
      subst e2; subst e
      exact fun w f f2 G x hr hv => VR.low hr _ hb hv
    | succ j =>
      simp only [fr, List.getElem?_cons_succ] at e2 e
      exact h2 j v2 v e2 e
  | none :: l, u :: us, i, g, h, hg => by
    obtain ⟨h1, h2⟩ := frOk_wk l us (i + 1) g h fun j v hj => by rw [← hg (j + 1) v (by simpa using hj)]; congr 1; omega
    refine ⟨by simp only [fr, List.length_cons, h1], fun j v2 v e2 e => ?_⟩
    cases j with
    | zero =>
      simp only [fr, List.getElem?_cons_zero, Option.some.injEq] at e2 e
      subst e2; subst e
      have := hg 0 u (by simp)
      rw [Nat.add_zero] at this
      rw [this]
      exact wk_shed _ _
    | succ j =>
      simp only [fr, List.getElem?_cons_succ] at e2 e
      exact h2 j v2 v e2 e
  | [], _ :: _, _, _, h, _ => h.elim
  | some _ :: _, [], _, _, h, _ => h.elim
  | none :: _, [], _, _, h, _ => h.elim
theorem frOk_fr {m : Nat} : ∀ (l : List (Option V)) (i : Nat) (g : Nat → V), (∀ v, some v ∈ l → v.low m = true) → frOk m l (fr l i g)
  | [], _, _, _ => trivial
  | some v :: l, i, g, h => ⟨⟨rfl, h v (by simp)⟩, frOk_fr l (i + 1) g fun v hv => h v (by simp [hv])⟩
  | none :: l, i, g, h => frOk_fr l (i + 1) g fun v hv => h v (by simp [hv])
/-- a family of states of m blocks -/
structure Fam (α : Type) where
  L : α → List (Option V)
  T : α → Tr Ob
def Fam.st {α : Type} (F : Fam α) (m : Nat) (x : α) (g : Nat → V) : St := ⟨fr (F.L x) 0 g, ⟨F.T x, m, 0⟩⟩
def Tr.noLoop : Tr Ob → Bool
  | .nil => true
  | .node l x r => l.noLoop && r.noLoop && match x with | some (.loop _) => false | _ => true
theorem Tr.noLoop_ok : ∀ {t : Tr Ob}, t.noLoop = true → ∀ n lp, t.get n ≠ some (.loop lp)
  | .nil, _, n, lp, e => by simp [Tr.get] at e
  | .node l x r, h, n, lp, e => by
    simp only [Tr.noLoop, Bool.and_eq_true] at h
    rw [Tr.get_node] at e
    split at e
    · subst e; simp at h
    · split at e
      · exact Tr.noLoop_ok h.1.1 _ _ e
      · exact Tr.noLoop_ok h.1.2 _ _ e
/-- the state is one of the family, and may have more blocks -/
structure Mt {α : Type} (F : Fam α) (m : Nat) (x : α) (s : St) : Prop where
  tm : frOk m (F.L x) s.tm
  ob : ∀ j, j < m → s.h.get j = (F.T x).get j
  next : m ≤ s.h.next
  nl : s.h.tr.noLoop = true
/-- a family's blocks are alive, and know no other ones -/
structure FamOk {α : Type} (F : Fam α) (m : Nat) : Prop where
  L : ∀ x v, some v ∈ F.L x → v.low m = true
  T : ∀ x j, j < m → ∃ o, (F.T x).get j = some o ∧ o.lv = true ∧ o.low m
theorem Mt.fwd {α : Type} {F : Fam α} {m : Nat} {x : α} {s : St} (hF : FamOk F m) (h : Mt F m x s) : Fwd id s (F.st m x fun j => ((s.tm[j]?).getD .any).shed) where
  lt := fun j hj => Nat.lt_of_lt_of_le hj h.next
  inj := fun i j _ _ e => e
  tm := frOk_wk (F.L x) s.tm 0 _ h.tm fun j v hj => by simp [hj]
  ob := fun j hj => by
    obtain ⟨o, h1, h2, h3⟩ := hF.T x j hj
    exact ⟨o, o, h1, by rw [id, h.ob j hj]; exact h1, h2, wk_low h3⟩
  loop := fun b lp _ e => absurd e (Tr.noLoop_ok h.nl b lp)
theorem kept_bwd {β : Type} {E : Fam β} {m : Nat} {y : β} {s s1 sN sN2 : St} (hE : FamOk E m) (hs : s.h.next = m) (hsl : s.h.tr.noLoop = true) (hN : sN.h.next = m) (hM : Mt E m y sN2) : Bwd id (idn m) s s1 sN sN2 (E.st m y fun j => ((sN2.tm[j]?).getD .any).shed) where
  old := fun b j hb e => by
    simp only [idn] at e
    split at e
    · cases e; exact ⟨by omega, rfl⟩
    · cases e
  new := fun b j hb e => by
    simp only [idn] at e
    split at e
    · omega
    · cases e
  inj := fun b b' j e e' => by
    simp only [idn] at e e'
    split at e
    · split at e'
      · cases e; cases e'; rfl
      · cases e'
    · cases e
  tm := frOk_wk (E.L y) sN2.tm 0 _ hM.tm fun j v hj => by simp [hj]
  kept := fun b o hb e _ => by
    simp only [idn] at e
    rw [if_pos (by omega)] at e
    cases e
  ob := fun b j o e hg => by
    simp only [idn] at e
    split at e
    · rename_i hb
      cases e
      obtain ⟨o', h1, h2, h3⟩ := hE.T y b hb
      have : o = o' := by
        have hg' : (E.T y).get b = some o := hg
        rw [h1] at hg'; cases hg'; rfl
      subst this
      exact .inr ⟨o, by rw [hM.ob b hb]; exact h1, wk_low h3⟩
    · cases e
  next := by rw [hs]; exact Nat.le_refl _
  low := rfl
  loop := fun b lp _ e => absurd e (Tr.noLoop_ok hsl b lp)
theorem FamOk.mt {α : Type} {F : Fam α} {m : Nat} (hF : FamOk F m) (hn : ∀ x, (F.T x).noLoop = true) (x : α) (g : Nat → V) : Mt F m x (F.st m x g) :=
  ⟨frOk_fr _ _ _ (hF.L x), fun j _ => rfl, Nat.le_refl _, hn x⟩
/-- A loop that keeps its m blocks: each round leads on, to a state of the family of lower rank, or out. -/
theorem kept_loop {m : Nat} {B : Code} {α β : Type} {F : Fam α} {E : Fam β} (out : β → Out) (rank : α → Nat) (R : α → β → Prop) (hF : FamOk F m) (hE : FamOk E m) (nF : ∀ x, (F.T x).noLoop = true) (nE : ∀ y, (E.T y).noLoop = true) (hout : ∀ y, out y ≠ .normal)
    (step : ∀ x g (X : St → Prop) (Q : Rs → Prop), (∀ s1 x', Mt F m x' s1 → rank x' < rank x → (∀ y, R x' y → R x y) → X s1) → (∀ y s1, Mt E m y s1 → R x y → Q (.out (out y) s1)) → ∃ r, Evs cx (.code B (F.st m x g)) r ∧ onLoopW X Q r) :
    ∀ k x g, rank x < k → ∃ y g', R x y ∧ Evs cx (.code (.loop B) (F.st m x g)) (.out (out y) (E.st m y g'))
  | 0, _, _, h => absurd h (Nat.not_lt_zero _)
  | k + 1, x, g, hk => by
    obtain ⟨g0, id0⟩ : ∃ g0, Fwd id (F.st m x g) (F.st m x g0) := ⟨_, (hF.mt nF x g).fwd hF⟩
    obtain ⟨r, h1, h2⟩ := (step x g0 (fun s1 => ∃ x', Mt F m x' s1 ∧ rank x' < rank x ∧ ∀ y, R x' y → R x y) (fun r => ∃ y s1, r = .out (out y) s1 ∧ Mt E m y s1 ∧ R x y)
      (fun s1 x' a b c => ⟨x', a, b, c⟩) (fun y s1 a b => ⟨y, s1, rfl, a, b⟩))
    unfold onLoopW at h2
    split at h2
    · rename_i s1
      obtain ⟨x', hM, hr, hR⟩ := h2
      obtain ⟨y, g', hy, hev⟩ := kept_loop out rank R hF hE nF nE hout step k x' (fun j => ((s1.tm[j]?).getD .any).shed) (by omega)
      have h3 := h1.loop (hM.fwd hF) (kept_bwd hE rfl (nF x) rfl (hE.mt nE y g')) hev
      exact ⟨y, _, hR y hy, Evs.carry id0 (kept_bwd hE rfl (nF x) rfl (hE.mt nE y _)) h3⟩
    · rename_i hne
      obtain ⟨y, s1, rfl, hM, hy⟩ := h2
      exact ⟨y, _, hy, Evs.carry id0 (kept_bwd hE rfl (nF x) rfl hM) (h1.loop_out (hout y))⟩
/-- the loop from any state that is one of the family -/
theorem kept_from {m : Nat} {B : Code} {α β : Type} {F : Fam α} {E : Fam β} {out : β → Out} {R : α → β → Prop} (hF : FamOk F m) (hE : FamOk E m) (nE : ∀ y, (E.T y).noLoop = true)
    (h : ∀ x g, ∃ y g', R x y ∧ Evs cx (.code (.loop B) (F.st m x g)) (.out (out y) (E.st m y g'))) {s : St} {x : α} (hs : s.h.next = m) (hM : Mt F m x s) {Q : Rs → Prop} (hQ : ∀ y g', R x y → Q (.out (out y) (E.st m y g'))) :
    ∃ r, Evs cx (.code (.loop B) s) r ∧ Q r := by
  obtain ⟨y, g', hy, hev⟩ := h x (fun j => ((s.tm[j]?).getD .any).shed)
  exact ⟨_, Evs.carry (hM.fwd hF) (kept_bwd hE hs hM.nl rfl (hE.mt nE y g')) hev, hQ y _ hy⟩
end Go.Ev
end

section
set_option linter.unusedVariables false
set_option linter.unusedSimpArgs false
namespace Go.Ev
variable {P : Program} {cx : Cx} {en : En}
/-! ### Families told by the places that count -/
def pick : List Bool → List V → List V
  | true :: m, v :: l => v :: pick m l
  | false :: m, _ :: l => pick m l
  | _, _ => []
def unm : List Bool → List V → List (Option V)
  | [], _ => []
  | true :: m, v :: vs => some v :: unm m vs
  | true :: m, [] => none :: unm m []
  | false :: m, vs => none :: unm m vs
def trF : List Ob → Nat → Tr Ob → Tr Ob
  | [], _, t => t
  | o :: l, b, t => trF l (b + 1) (t.set b o)
def obsF : Nat → Nat → Hp → List (Option Ob)
  | 0, _, _ => []
  | m + 1, b, h => h.get b :: obsF m (b + 1) h
def Fam.of {α : Type} (mask : List Bool) (vals : α → List V) (obs : α → List Ob) : Fam α := ⟨fun x => unm mask (vals x), fun x => trF (obs x) 0 .nil⟩
def Ob.noLp : Ob → Bool
  | .loop _ => false
  | _ => true
theorem trF_get : ∀ (l : List Ob) (b : Nat) (t : Tr Ob) (j : Nat), (trF l b t).get j = if b ≤ j ∧ j < b + l.length then l[j - b]? else t.get j
  | [], b, t, j => by rw [if_neg (by simp only [List.length_nil]; omega)]; rfl
  | o :: l, b, t, j => by
    rw [trF, trF_get l (b + 1) (t.set b o) j]
    simp only [List.length_cons]
    by_cases h : b = j
    · subst h
      rw [if_neg (by omega), if_pos (by omega), Tr.get_set, if_pos rfl, Nat.sub_self]; rfl
    · by_cases h2 : b + 1 ≤ j ∧ j < b + 1 + l.length
      · rw [if_pos h2, if_pos (by omega)]
        have : j - b = (j - (b + 1)) + 1 := by omega
        rw [this, List.getElem?_cons_succ]
      · rw [if_neg h2, if_neg (by omega), Tr.get_set, if_neg (Ne.symm h)]
theorem setF_noLoop {o : Ob} (ho : o.noLp = true) : ∀ (d : Nat) (t : Tr Ob) (n : Nat), t.noLoop = true → (t.setF d n o).noLoop = true
  | 0, t, _, h => h
  | d + 1, .nil, n, h => by
    simp only [Tr.setF]
    cases n.beq 0 with
    | true => simp only [cond_true, Tr.noLoop]; cases o <;> simp_all [Ob.noLp]
    | false =>
      simp only [cond_false]
      cases (n % 2).beq 1 with
      | true => simp only [cond_true, Tr.noLoop, setF_noLoop ho d .nil _ rfl, Bool.and_self]
      | false => simp only [cond_false, Tr.noLoop, setF_noLoop ho d .nil _ rfl, Bool.and_self]
  | d + 1, .node l x r, n, h => by
    simp only [Tr.noLoop, Bool.and_eq_true] at h
    obtain ⟨⟨h1, h2⟩, h3⟩ := h
    simp only [Tr.setF]
    cases n.beq 0 with
    | true => simp only [cond_true, Tr.noLoop, h1, h2, Bool.true_and]; cases o <;> simp_all [Ob.noLp]
    | false =>
      simp only [cond_false]
      cases (n % 2).beq 1 with
      | true => simp only [cond_true, Tr.noLoop, setF_noLoop ho d l _ h1, h2, Bool.true_and]; exact h3
      | false => simp only [cond_false, Tr.noLoop, setF_noLoop ho d r _ h2, h1, Bool.true_and]; exact h3
theorem trF_noLoop : ∀ (l : List Ob) (b : Nat) (t : Tr Ob), (∀ o ∈ l, o.noLp = true) → t.noLoop = true → (trF l b t).noLoop = true
  | [], _, _, _, h => h
  | o :: l, b, t, ho, h => trF_noLoop l (b + 1) _ (fun o' h' => ho o' (by simp [h'])) (setF_noLoop (ho o (by simp)) _ _ _ h)
theorem unm_ok {m : Nat} : ∀ (mask : List Bool) (vs tm : List V), tm.length = mask.length → pick mask tm = vs → V.lows m vs = true → frOk m (unm mask vs) tm
  | [], vs, [], _, _, _ => trivial
  | true :: mask, vs, u :: tm, hl, hp, hb => by
    simp only [pick] at hp
    subst hp
    simp only [V.lows, Bool.and_eq_true] at hb
    exact ⟨⟨rfl, hb.1⟩, unm_ok mask _ tm (by simpa using hl) rfl hb.2⟩
  | false :: mask, vs, u :: tm, hl, hp, hb => by
    simp only [pick] at hp
    exact unm_ok mask vs tm (by simpa using hl) hp hb
  | [], _, _ :: _, hl, _, _ => by simp at hl
  | _ :: _, _, [], hl, _, _ => by simp at hl
theorem unm_mem {v : V} : ∀ (mask : List Bool) (vs : List V), some v ∈ unm mask vs → v ∈ vs
  | [], vs, h => by simp [unm] at h
  | true :: m, u :: vs, h => by
    simp only [unm, List.mem_cons, Option.some.injEq] at h
    rcases h with rfl | h
    · simp
    · exact List.mem_cons_of_mem _ (unm_mem m vs h)
  | true :: m, [], h => by
    simp only [unm, List.mem_cons, reduceCtorEq, false_or] at h
    exact unm_mem m [] h
  | false :: m, vs, h => by
    simp only [unm, List.mem_cons, reduceCtorEq, false_or] at h
    exact unm_mem m vs h
theorem obsF_eq {h : Hp} {l : List Ob} : ∀ {m b : Nat}, obsF m b h = ((l.drop b).take m).map some → b + m ≤ l.length → ∀ j, b ≤ j → j < b + m → h.get j = l[j]?
  | 0, b, _, _, j, h1, h2 => by omega
  | m + 1, b, e, hl, j, h1, h2 => by
    have hb : b < l.length := by omega
    rw [List.drop_eq_getElem_cons hb] at e
    simp only [obsF, List.take_succ_cons, List.map_cons, List.cons.injEq] at e
    by_cases hj : b = j
    · subst hj; rw [e.1, List.getElem?_eq_getElem hb]
    · exact obsF_eq e.2 (by omega) j (by omega) (by omega)
/-- what is to be known of a family once -/
structure OfOk {α : Type} (mask : List Bool) (vals : α → List V) (obs : α → List Ob) (m : Nat) : Prop where
  len : ∀ x, (obs x).length = m
  vs : ∀ x, V.lows m (vals x) = true
  os : ∀ x, ∀ o ∈ obs x, o.lv = true ∧ o.low m ∧ o.noLp = true
theorem lows_mem {m : Nat} : ∀ {vs : List V} {v : V}, V.lows m vs = true → v ∈ vs → v.low m = true
  | u :: vs, v, h, hm => by
    simp only [V.lows, Bool.and_eq_true] at h
    rcases List.mem_cons.1 hm with rfl | hm
    · exact h.1
    · exact lows_mem h.2 hm
theorem OfOk.fam {α : Type} {mask : List Bool} {vals : α → List V} {obs : α → List Ob} {m : Nat} (h : OfOk mask vals obs m) : FamOk (Fam.of mask vals obs) m where
  L := fun x v hv => lows_mem (h.vs x) (unm_mem _ _ hv)
  T := fun x j hj => by
    have hl : j < (obs x).length := by rw [h.len]; exact hj
    refine ⟨(obs x)[j], ?_, (h.os x _ (List.getElem_mem hl)).1, (h.os x _ (List.getElem_mem hl)).2.1⟩
    simp only [Fam.of]
    rw [trF_get, if_pos (by omega), Nat.sub_zero, List.getElem?_eq_getElem hl]
theorem OfOk.nl {α : Type} {mask : List Bool} {vals : α → List V} {obs : α → List Ob} {m : Nat} (h : OfOk mask vals obs m) (x : α) : ((Fam.of mask vals obs).T x).noLoop = true :=
  trF_noLoop _ _ _ (fun o ho => (h.os x o ho).2.2) rfl
def chkS (mask : List Bool) (m : Nat) (s : St) (p : Prop) : Prop := need (s.tm.length.beq mask.length && (m.ble s.h.next && s.h.tr.noLoop)) p
theorem OfOk.mt {α : Type} {mask : List Bool} {vals : α → List V} {obs : α → List Ob} {m : Nat} (h : OfOk mask vals obs m) {s : St} {x : α} (hc : (s.tm.length.beq mask.length && (m.ble s.h.next && s.h.tr.noLoop)) = true)
    (hv : pick mask s.tm = vals x) (ho : obsF m 0 s.h = (obs x).map some) : Mt (Fam.of mask vals obs) m x s := by
  simp only [Bool.and_eq_true] at hc
  refine ⟨unm_ok mask _ _ (Nat.eq_of_beq_eq_true hc.1) hv (h.vs x), fun j hj => ?_, Nat.le_of_ble_eq_true hc.2.1, hc.2.2⟩
  have hl := h.len x
  have := obsF_eq (h := s.h) (l := obs x) (m := m) (b := 0) (by rw [List.drop_zero, List.take_of_length_le (by omega)]; exact ho) (by omega) j (by omega) (by omega)
  rw [this]
  simp only [Fam.of]
  rw [trF_get, if_pos (by omega), Nat.sub_zero]
/-! #### a state that has more blocks than the family -/
def Fam.stM {α : Type} (F : Fam α) (M : Nat) (x : α) (g : Nat → V) : St := ⟨fr (F.L x) 0 g, ⟨F.T x, M, 0⟩⟩
theorem kept_bwdM {β : Type} {E : Fam β} {m M : Nat} {y : β} {s s1 sN sN2 : St} (hE : FamOk E m) (hz : ∀ j, m ≤ j → (E.T y).get j = none) (hs : s.h.next = M) (hm : m ≤ M) (hsl : s.h.tr.noLoop = true) (hN : sN.h.next = m) (hM : Mt E m y sN2) : Bwd id (idn m) s s1 sN sN2 (E.stM M y fun j => ((sN2.tm[j]?).getD .any).shed) where
  old := fun b j hb e => by
    simp only [idn] at e
    split at e
    · cases e; exact ⟨by omega, rfl⟩
    · cases e
  new := fun b j hb e => by
    simp only [idn] at e
    split at e
    · omega
    · cases e
  inj := fun b b' j e e' => by
    simp only [idn] at e e'
    split at e
    · split at e'
      · cases e; cases e'; rfl
      · cases e'
    · cases e
  tm := frOk_wk (E.L y) sN2.tm 0 _ hM.tm fun j v hj => by simp [hj]
  kept := fun b o hb e hg => by
    simp only [idn] at e
    split at e
    · cases e
    · have hg' : (E.T y).get b = some o := hg
      rw [hz b (by omega)] at hg'
      cases hg'
  ob := fun b j o e hg => by
    simp only [idn] at e
    split at e
    · rename_i hb
      cases e
      obtain ⟨o', h1, h2, h3⟩ := hE.T y b hb
      have : o = o' := by
        have hg' : (E.T y).get b = some o := hg
        rw [h1] at hg'; cases hg'; rfl
      subst this
      exact .inr ⟨o, by rw [hM.ob b hb]; exact h1, wk_low h3⟩
    · cases e
  next := by rw [hs]; exact Nat.le_refl _
  low := rfl
  loop := fun b lp _ e => absurd e (Tr.noLoop_ok hsl b lp)
theorem OfOk.none {α : Type} {mask : List Bool} {vals : α → List V} {obs : α → List Ob} {m : Nat} (h : OfOk mask vals obs m) (x : α) (j : Nat) (hj : m ≤ j) : ((Fam.of mask vals obs).T x).get j = none := by
  simp only [Fam.of]
  rw [trF_get, h.len, if_neg (by omega)]; rfl
/-- what code comes to from a family's state, it comes to from a state that has more -/
theorem cut_from {m : Nat} {c : Code} {α β : Type} {mask maskE : List Bool} {vals : α → List V} {obs : α → List Ob} {valsE : β → List V} {obsE : β → List Ob} {e : Out} {y : β} {x : α} (hF : OfOk mask vals obs m) (hE : OfOk maskE valsE obsE m)
    (h : ∀ g, ∃ g', Evs cx (.code c ((Fam.of mask vals obs).st m x g)) (.out e ((Fam.of maskE valsE obsE).st m y g'))) {s : St} (hc : (s.tm.length.beq mask.length && (m.ble s.h.next && s.h.tr.noLoop)) = true)
    (hv : pick mask s.tm = vals x) (ho : obsF m 0 s.h = (obs x).map some) : ∃ g', Evs cx (.code c s) (.out e ((Fam.of maskE valsE obsE).stM s.h.next y g')) := by
  have hM := hF.mt hc hv ho
  obtain ⟨g', hev⟩ := h (fun j => ((s.tm[j]?).getD .any).shed)
  exact ⟨_, Evs.carry (hM.fwd hF.fam) (kept_bwdM hE.fam (hE.none y) rfl hM.next hM.nl rfl (hE.fam.mt hE.nl y g')) hev⟩
/-- how a round is left, by the places that count -/
def onLoopK (mask maskE : List Bool) (m : Nat) (X : List V → List (Option Ob) → Prop) (Q : Out → List V → List (Option Ob) → Prop) : Rs → Prop
  | .out .normal s => chkS mask m s (X (pick mask s.tm) (obsF m 0 s.h))
  | .out e s => chkS maskE m s (Q e (pick maskE s.tm) (obsF m 0 s.h))
  | _ => False
/-- A loop that keeps its blocks, in one theorem: from each state of the family, out. -/
theorem loop_of (he : EnOk cx en) {N m : Nat} {B : Code} {α β : Type} {mask maskE : List Bool} {vals : α → List V} {obs : α → List Ob} {valsE : β → List V} {obsE : β → List Ob} (out : β → Out) (rank : α → Nat) (R : α → β → Prop)
    (hF : OfOk mask vals obs m) (hE : OfOk maskE valsE obsE m) (hout : ∀ y, out y ≠ .normal)
    (step : ∀ x g (X : List V → List (Option Ob) → Prop) (Q : Out → List V → List (Option Ob) → Prop),
      (∀ x', rank x' < rank x → (∀ y, R x' y → R x y) → X (vals x') ((obs x').map some)) → (∀ y, R x y → Q (out y) (valsE y) ((obsE y).map some)) →
      vc cx en N (.code B ((Fam.of mask vals obs).st m x g)) (onLoopK mask maskE m X Q)) (x : α) (g : Nat → V) :
    ∃ y g', R x y ∧ Evs cx (.code (.loop B) ((Fam.of mask vals obs).st m x g)) (.out (out y) ((Fam.of maskE valsE obsE).st m y g')) := by
  refine kept_loop out rank R hF.fam hE.fam hF.nl hE.nl hout (fun x g X Q hX hQ => ?_) (rank x + 1) x g (by omega)
  have h := step x g (fun vs os => ∃ x', rank x' < rank x ∧ (∀ y, R x' y → R x y) ∧ vs = vals x' ∧ os = (obs x').map some) (fun e vs os => ∃ y, R x y ∧ e = out y ∧ vs = valsE y ∧ os = (obsE y).map some)
    (fun x' a b => ⟨x', a, b, rfl, rfl⟩) (fun y a => ⟨y, a, rfl, rfl, rfl⟩)
  have mono : ∀ r, onLoopK mask maskE m (fun vs os => ∃ x', rank x' < rank x ∧ (∀ y, R x' y → R x y) ∧ vs = vals x' ∧ os = (obs x').map some) (fun e vs os => ∃ y, R x y ∧ e = out y ∧ vs = valsE y ∧ os = (obsE y).map some) r → onLoopW X Q r := by
    intro r hr
    unfold onLoopK at hr
    split at hr
    · obtain ⟨hc, x', h1, h2, h3, h4⟩ := need_iff.1 hr
      exact hX _ x' (hF.mt hc h3 h4) h1 h2
    · rename_i e s hne
      obtain ⟨hc, y, h1, h2, h3, h4⟩ := need_iff.1 hr
      subst h2
      have := hQ y s (hE.mt hc h3 h4) h1
      unfold onLoopW
      split
      · rename_i heq; rw [Rs.out.injEq] at heq; exact absurd heq.1 (hout y)
      · exact this
    · exact hr.elim
  obtain ⟨r, h1, h2⟩ := vc_ok he N _ _ h
  exact ⟨r, h1, mono r h2⟩
/-- a state at a loop's head: of the family, with its blocks and no others -/
def chkE (mask : List Bool) (m : Nat) (s : St) (p : Prop) : Prop := need (s.tm.length.beq mask.length && (s.h.next.beq m && s.h.tr.noLoop)) p
theorem OfOk.enter {α : Type} {mask : List Bool} {vals : α → List V} {obs : α → List Ob} {m : Nat} (h : OfOk mask vals obs m) {s : St} {x : α} (hc : (s.tm.length.beq mask.length && (s.h.next.beq m && s.h.tr.noLoop)) = true)
    (hv : pick mask s.tm = vals x) (ho : obsF m 0 s.h = (obs x).map some) : s.h.next = m ∧ Mt (Fam.of mask vals obs) m x s := by
  simp only [Bool.and_eq_true] at hc
  have hn := Nat.eq_of_beq_eq_true hc.2.1
  exact ⟨hn, h.mt (by simp only [hc.1, hc.2.2, hn, Nat.ble_eq_true_of_le (Nat.le_refl m), Bool.and_self]) hv ho⟩
/-- code from a family's state: one outcome -/
theorem seg_of (he : EnOk cx en) {N m : Nat} {c : Code} {α β : Type} {mask maskE : List Bool} {vals : α → List V} {obs : α → List Ob} {valsE : β → List V} {obsE : β → List Ob} {e : Out} {x : α} {y : β} (hF : OfOk mask vals obs m) (hE : OfOk maskE valsE obsE m) (hne : e ≠ .normal)
    (step : ∀ g (X : List V → List (Option Ob) → Prop) (Q : Out → List V → List (Option Ob) → Prop), Q e (valsE y) ((obsE y).map some) → vc cx en N (.code c ((Fam.of mask vals obs).st m x g)) (onLoopK mask maskE m X Q)) (g : Nat → V) :
    ∃ g', Evs cx (.code c ((Fam.of mask vals obs).st m x g)) (.out e ((Fam.of maskE valsE obsE).st m y g')) := by
  obtain ⟨g0, id0⟩ : ∃ g0, Fwd id ((Fam.of mask vals obs).st m x g) ((Fam.of mask vals obs).st m x g0) := ⟨_, (hF.fam.mt hF.nl x g).fwd hF.fam⟩
  obtain ⟨r, h1, h2⟩ := vc_ok he N _ _ (step g0 (fun _ _ => False) (fun e' vs os => e' = e ∧ vs = valsE y ∧ os = (obsE y).map some) ⟨rfl, rfl, rfl⟩)
  unfold onLoopK at h2
  split at h2
  · exact (need_iff.1 h2).2.elim
  · obtain ⟨hc, rfl, h3, h4⟩ := need_iff.1 h2
    exact ⟨_, Evs.carry id0 (kept_bwd hE.fam rfl (hF.nl x) rfl (hE.mt hc h3 h4)) h1⟩
  · exact h2.elim
/-- what is told by tables, and of a block's code -/
def enL (el : Nat → Option ((List V → Prop) → Prop)) (tab : Tr Tq) (lp : Nat → Option (Code → St → (Rs → Prop) → Prop)) : En := { enOf el tab with lp := lp }
theorem enL_ok {el : Nat → Option ((List V → Prop) → Prop)} {tab : Tr Tq} {lp : Nat → Option (Code → St → (Rs → Prop) → Prop)} (h : EnOk cx (enOf el tab)) (hl : ∀ id T, lp id = some T → ∀ c s Q, T c s Q → ∃ r, Evs cx (.code c s) r ∧ Q r) : EnOk cx (enL el tab lp) :=
  ⟨h.el, h.pc, hl⟩
/-- one block alone -/
def lp1 (k : Nat) (T : Code → St → (Rs → Prop) → Prop) : Nat → Option (Code → St → (Rs → Prop) → Prop) := fun id => cond (id.beq k) (some T) none
theorem lp1_ok {k : Nat} {T : Code → St → (Rs → Prop) → Prop} (h : ∀ c s Q, T c s Q → ∃ r, Evs cx (.code c s) r ∧ Q r) : ∀ id T', lp1 k T id = some T' → ∀ c s Q, T' c s Q → ∃ r, Evs cx (.code c s) r ∧ Q r := fun id T' e => by
  unfold lp1 at e
  cases hb : id.beq k with
  | true => rw [hb] at e; cases e; exact h
  | false => rw [hb] at e; cases e
end Go.Ev
end
