/- By an AI agent. What is proved here: a generator of conditions that is sound, and the reading of arguments as data. -/
import Derived.Test.YtegoogghlakghaaGreatFc
import Derived.Deep.Slices
section
set_option linter.unusedVariables false
set_option linter.unusedSimpArgs false
namespace Go.Ev
variable {P : Program} {cx : Cx}
/-! ### Some run of the evaluator -/
theorem run_mono {rec rec' : Tk → Option Rs} (h : ∀ t r, rec t = some r → rec' t = some r) : ∀ (m : M) (r : Rs), m.run rec = some r → m.run rec' = some r
  | .ret _, _, e => e
  | .no, _, e => e
  | .call t k, r, e => by
    simp only [M.run] at e ⊢
    cases e1 : rec t with
    | none => rw [e1] at e; cases e
    | some r1 =>
      rw [e1] at e
      rw [h _ _ e1]
      exact run_mono h (k r1) r e
theorem evF_succ : ∀ (n : Nat) (t : Tk) (r : Rs), evF cx n t = some r → evF cx (n + 1) t = some r
  | 0, _, _, h => by cases h
  | n + 1, t, r, h => run_mono (fun t r => evF_succ n t r) _ _ h
theorem evF_mono {n m : Nat} (h : n ≤ m) {t : Tk} {r : Rs} (e : evF cx n t = some r) : evF cx m t = some r := by
  induction h with
  | refl => exact e
  | step _ ih => exact evF_succ _ _ _ ih
/-- so the task ends: at a run of the evaluator, and wherever else it is sound -/
def Evs (cx : Cx) (t : Tk) (r : Rs) : Prop := ∀ P, CxOk P cx → ∃ n0, ∀ n, n0 ≤ n → Sound P cx n t r
theorem Evs.of_run {n : Nat} {t : Tk} {r : Rs} (h : evF cx n t = some r) : Evs cx t r := fun P hc => ⟨n, fun m hm => evF_sound hc (evF_mono hm h)⟩
theorem runR_uni {P : Program} (hc : CxOk P cx) : ∀ (m : M) (r : Rs), m.runR (Evs cx) r → ∃ n0, ∀ n, n0 ≤ n → m.runR (Sound P cx n) r
  | .ret _, _, h => ⟨0, fun _ _ => h⟩
  | .no, _, h => h.elim
  | .call t k, r, ⟨r1, h1, h2⟩ => by
    obtain ⟨n1, g1⟩ := h1 P hc
    obtain ⟨n2, g2⟩ := runR_uni hc (k r1) r h2
    exact ⟨max n1 n2, fun n hn => ⟨r1, g1 n (by omega), g2 n (by omega)⟩⟩
theorem Evs.of_step {t : Tk} {r : Rs} (h : (step cx t).runR (Evs cx) r) : Evs cx t r := fun P hc => by
  obtain ⟨n0, h0⟩ := runR_uni hc _ _ h
  refine ⟨n0 + 1, fun n hn => ?_⟩
  obtain ⟨k, rfl⟩ : ∃ k, n = k + 1 := ⟨n - 1, by omega⟩
  exact step_ok hc (draw_ok hc) (fun t r h => h) t r (h0 k (by omega))
theorem Evs.sound (hc : CxOk P cx) {f : Nat} {args : List V} {v : V} {h : Hp} (he : Evs cx (.pcall f args) (.val v h)) : PcallS P cx f args v := by
  obtain ⟨n, he⟩ := he P hc
  exact he n (Nat.le_refl _)
/-- what the one comes to, the other comes to, too -/
def Ld (cx : Cx) (a b : M) : Prop := ∀ r, b.runR (Evs cx) r → a.runR (Evs cx) r
theorem Ld.refl (a : M) : Ld cx a a := fun r h => h
theorem Ld.of_eq {a b : M} (h : a = b) : Ld cx a b := fun r hr => by rw [h]; exact hr
theorem Ld.trans {a b c : M} (h : Ld cx a b) (h' : Ld cx b c) : Ld cx a c := fun r hr => h r (h' r hr)
theorem Ld.call {t : Tk} {k : Rs → M} {r1 : Rs} (e : Evs cx t r1) : Ld cx (.call t k) (k r1) := fun r hr => ⟨r1, e, hr⟩
/-- a call's end -/
def Pev (cx : Cx) (f : Nat) (args : List V) (v : V) : Prop := Evs cx (.pcall f args) (.val v .empty)
/-! ### What is to be shown, worked out by the kernel: conditions that it cannot decide are left standing -/
def need (b : Bool) (p : Prop) : Prop := cond b p False
def brW (b : Bool) (p q : Prop) : Prop := cond b p q
def getO {α : Type} (o : Option α) (k : α → Prop) : Prop := match o with | some a => k a | none => False
theorem need_iff {b : Bool} {p : Prop} : need b p ↔ b = true ∧ p := by cases b <;> simp [need]
theorem getO_iff {α : Type} {o : Option α} {k : α → Prop} : getO o k ↔ ∃ a, o = some a ∧ k a := by cases o <;> simp [getO]
theorem getO_some {α : Type} {o : Option α} {a : α} {k : α → Prop} (h : o = some a) (hk : k a) : getO o k := by rw [h]; exact hk
theorem brW_iff {b : Bool} {p q : Prop} : brW b p q ↔ (b = true → p) ∧ (b = false → q) := by cases b <;> simp [brW]
theorem set_same {tm : List V} {d : Nat} {v : V} (h : tm[d]? = some v) : tm.set d v = tm := by
  obtain ⟨hd, rfl⟩ := List.getElem?_eq_some_iff.1 h
  exact List.set_getElem_self hd
def gTmp (ops : List Oper) (j : Nat) : Option Nat := match ops[j]? with | some oj => oj.dst | none => none
/-- is an operation wanted? -/
def guardW (ops : List Oper) (tm : List V) (o : Oper) (run skip : List V → Prop) : Prop :=
  match o.guard with
  | none => run tm
  | some (j, want) => match gTmp ops j with
    | none => skip tm
    | some d => match tm[d]? with
      | some (.bool b) => brW b (cond want (run (tm.set d (.bool true))) (skip (tm.set d (.bool true)))) (cond want (skip (tm.set d (.bool false))) (run (tm.set d (.bool false))))
      | _ => skip tm
theorem guardW_ok {ops : List Oper} {tm : List V} {o : Oper} {run skip : List V → Prop} (h : guardW ops tm o run skip) : (wanted ops tm o = true ∧ run tm) ∨ (wanted ops tm o = false ∧ skip tm) := by
  unfold guardW at h
  unfold wanted
  cases hg : o.guard with
  | none => rw [hg] at h; exact .inl ⟨rfl, h⟩
  | some jw =>
    obtain ⟨j, want⟩ := jw
    rw [hg] at h
    simp only [gTmp] at h ⊢
    cases hj : ops[j]? with
    | none => rw [hj] at h; exact .inr ⟨rfl, h⟩
    | some oj =>
      rw [hj] at h
      simp only at h ⊢
      cases hd : oj.dst with
      | none => rw [hd] at h; exact .inr ⟨rfl, h⟩
      | some d =>
        rw [hd] at h
        simp only at h ⊢
        cases ht : tm[d]? with
        | none => rw [ht] at h; exact .inr ⟨rfl, h⟩
        | some v =>
          rw [ht] at h
          cases v with
          | bool b =>
            cases b with
            | true =>
              simp only [brW, cond_true, set_same ht] at h
              cases want with
              | true => exact .inl ⟨rfl, h⟩
              | false => exact .inr ⟨rfl, h⟩
            | false =>
              simp only [brW, cond_false, set_same ht] at h
              cases want with
              | true => exact .inr ⟨rfl, h⟩
              | false => exact .inl ⟨rfl, h⟩
          | _ => exact .inr ⟨rfl, h⟩
/-- what is told of a program's types and calls -/
structure En where
  el : Nat → Option ((List V → Prop) → Prop)
  pc : Nat → List V → Option ((V → Prop) → Prop)
  /-- what the code of a block comes to, by the block's number -/
  lp : Nat → Option (Code → St → (Rs → Prop) → Prop) := fun _ => none
  /-- are remainders by small numbers told apart? -/
  rm : Bool := false
structure EnOk (cx : Cx) (en : En) : Prop where
  el : ∀ t T, en.el t = some T → ∀ K, T K → ∃ cs, K cs
  pc : ∀ f args T, en.pc f args = some T → ∀ K, T K → ∃ v, Pev cx f args v ∧ K v
  lp : ∀ id T, en.lp id = some T → ∀ c s Q, T c s Q → ∃ r, Evs cx (.code c s) r ∧ Q r
/-! #### operations -/
def leB (a b : Int) : Bool := decide (a ≤ b)
def ltB (a b : Int) : Bool := decide (a < b)
def leN (a b : Nat) : Bool := decide (a ≤ b)
def keepW (h : Hp) (o : Option V) (k : V → Hp → Prop) : Prop := getO o fun v => k v h
theorem keepW_ok {h : Hp} {o : Option V} {k : V → Hp → Prop} (hk : keepW h o k) : ∃ v h', keep h o = some (v, h') ∧ k v h' := by
  obtain ⟨v, e, hv⟩ := getO_iff.1 hk
  exact ⟨v, h, by rw [e]; rfl, hv⟩
/-- an element of a slice that is not written -/
def rowW (en : En) (e z : Nat) (i : Int) (es : List (List V)) (k : List V → Prop) : Prop :=
  match en.el e with
  | some T => T fun cs => es[i.toNat]? = some cs ∧ k cs
  | none => getO es[i.toNat]? k
theorem rowW_ok {en : En} (he : EnOk cx en) {e z : Nat} {i : Int} {es : List (List V)} {k : List V → Prop} (h : rowW en e z i es k) : ∃ cs, es[i.toNat]? = some cs ∧ k cs := by
  unfold rowW at h
  split at h
  · rename_i T hT
    obtain ⟨cs, h⟩ := he.el _ _ hT _ h
    exact ⟨cs, h⟩
  · exact getO_iff.1 h
def atSliceW (en : En) (e z : Nat) (i : Int) (x : V) (k : V → Prop) : Prop :=
  match x with
  | .sl b o n z' _ => need (z'.beq z && leB 0 i && ltB i n) (k (.ptr b (o + i.toNat) 0))
  | .imm β z' _ es => need (z'.beq z && leB 0 i) (rowW en e z i es fun cs => k (.ipt β cs 0))
  | _ => False
theorem atSliceW_ok {en : En} (he : EnOk cx en) {e z : Nat} {i : Int} {x : V} {k : V → Prop} (h : atSliceW en e z i x k) : ∃ v, atSlice z i x = some v ∧ k v := by
  unfold atSliceW at h
  split at h
  · obtain ⟨h1, h2⟩ := need_iff.1 h
    simp only [Bool.and_eq_true, leB, ltB, decide_eq_true_eq] at h1
    refine ⟨_, ?_, h2⟩
    simp only [atSlice]
    rw [if_pos ⟨Nat.eq_of_beq_eq_true h1.1.1, h1.1.2, h1.2⟩]
  · obtain ⟨h1, h2⟩ := need_iff.1 h
    simp only [Bool.and_eq_true, leB, decide_eq_true_eq] at h1
    obtain ⟨cs, h3, h4⟩ := rowW_ok he h2
    refine ⟨_, ?_, h4⟩
    simp only [atSlice]
    rw [if_pos ⟨Nat.eq_of_beq_eq_true h1.1, h1.2⟩, h3]
  · exact h.elim
def addrIndexW (cx : Cx) (en : En) (t : Nat) (x i : V) (k : V → Prop) : Prop :=
  match cx.ty t, i with
  | some ti, .int _ i => match ti.d with
    | .arr n e => match sizeOf cx e with
      | some z => need (leB 0 i && ltB i n) (match x with
        | .ptr b r o => k (.ptr b r (o + i.toNat * z))
        | .ipt β cs o => k (.ipt β cs (o + i.toNat * z))
        | _ => False)
      | none => False
    | .slice e => match sizeOf cx e with
      | some z => cond (z.beq 0) False (atSliceW en e z i x k)
      | none => False
    | _ => False
  | _, _ => False
theorem addrIndexW_ok {en : En} (he : EnOk cx en) {t : Nat} {x i : V} {k : V → Prop} (h : addrIndexW cx en t x i k) : ∃ v, addrIndex cx t x i = some v ∧ k v := by
  unfold addrIndexW at h
  split at h
  case h_2 => exact h.elim
  rename_i ti kk i ht
  split at h
  · rename_i n e hd
    split at h
    case h_2 => exact h.elim
    rename_i z hz
    obtain ⟨h1, h2⟩ := need_iff.1 h
    simp only [Bool.and_eq_true, leB, ltB, decide_eq_true_eq] at h1
    simp only [addrIndex, ht, hd, hz]
    rw [if_pos h1]
    split at h2
    · exact ⟨_, rfl, h2⟩
    · exact ⟨_, rfl, h2⟩
    · exact h2.elim
  · rename_i e hd
    split at h
    case h_2 => exact h.elim
    rename_i z hz
    simp only [addrIndex, ht, hd, hz]
    cases hb : z.beq 0 with
    | true => rw [hb] at h; exact h.elim
    | false =>
      rw [hb] at h
      have : z ≠ 0 := fun e => by rw [e] at hb; cases hb
      rw [if_neg this]
      exact atSliceW_ok he h
  · exact h.elim
def indexW (cx : Cx) (t : Nat) (x i : V) (k : V → Prop) : Prop :=
  match cx.ty t, i with
  | some ti, .int _ i => match ti.d, x with
    | .arr n e, .agg cs => match sizeOf cx e with
      | some z => need (leB 0 i && ltB i n) (getO (partOf cx e cs (i.toNat * z)) k)
      | none => False
    | .str, .str s => need (leB 0 i) (getO s.data.toList[i.toNat]? fun b => k (.int .u8 b.toNat))
    | _, _ => False
  | _, _ => False
theorem indexW_ok {t : Nat} {x i : V} {k : V → Prop} (h : indexW cx t x i k) : ∃ v, indexV cx t x i = some v ∧ k v := by
  unfold indexW at h
  split at h
  case h_2 => exact h.elim
  rename_i ti kk i ht
  split at h
  · rename_i n e cs hd
    split at h
    case h_2 => exact h.elim
    rename_i z hz
    obtain ⟨h1, h2⟩ := need_iff.1 h
    simp only [Bool.and_eq_true, leB, ltB, decide_eq_true_eq] at h1
    simp only [indexV, ht, hd, hz]
    rw [if_pos h1]
    exact getO_iff.1 h2
  · rename_i s hd
    obtain ⟨h1, h2⟩ := need_iff.1 h
    simp only [leB, decide_eq_true_eq] at h1
    obtain ⟨b, h3, h4⟩ := getO_iff.1 h2
    simp only [indexV, ht, hd]
    rw [if_pos h1, h3]
    exact ⟨_, rfl, h4⟩
  · exact h.elim
/-- a bound of a slice expression -/
def bndW : Option V → Nat → (Nat → Prop) → Prop
  | none, d, k => k d
  | some (.int _ i), _, k => need (leB 0 i) (k i.toNat)
  | some _, _, _ => False
theorem bndW_ok {o : Option V} {d : Nat} {k : Nat → Prop} (h : bndW o d k) : ∃ n, bnd o d = some n ∧ k n := by
  unfold bndW at h
  split at h
  · exact ⟨_, rfl, h⟩
  · obtain ⟨h1, h2⟩ := need_iff.1 h
    simp only [leB, decide_eq_true_eq] at h1
    exact ⟨_, by simp only [bnd]; rw [if_pos h1], h2⟩
  · exact h.elim
def cutRowW (z : Nat) (lo hi mx : Option V) (n : Nat) (k : Nat → Nat → Nat → Prop) : Prop :=
  bndW lo 0 fun l => bndW hi n fun h => bndW mx n fun m => need (leN l h && leN h m && leN m n && !(z.beq 0) && (mx.isNone || hi.isSome)) (k l h m)
theorem cutRowW_ok {z n : Nat} {lo hi mx : Option V} {k : Nat → Nat → Nat → Prop} (h : cutRowW z lo hi mx n k) : ∃ l h' m, (∀ K : Nat → Nat → Nat → Option V, cutRow z lo hi mx n K = K l h' m) ∧ k l h' m := by
  unfold cutRowW at h
  obtain ⟨l, e1, h⟩ := bndW_ok h
  obtain ⟨h', e2, h⟩ := bndW_ok h
  obtain ⟨m, e3, h⟩ := bndW_ok h
  obtain ⟨h1, h2⟩ := need_iff.1 h
  simp only [Bool.and_eq_true, leN, decide_eq_true_eq, Bool.not_eq_true'] at h1
  refine ⟨l, h', m, fun K => ?_, h2⟩
  unfold cutRow
  rw [e1, e2, e3]
  simp only
  have hz : 0 < z := by
    rcases Nat.eq_zero_or_pos z with e | e
    · subst e; have := h1.1.2; cases this
    · exact e
  rw [if_pos ⟨h1.1.1.1.1, h1.1.1.1.2, h1.1.1.2, hz, h1.2⟩]
def sliceW (cx : Cx) (t : Nat) (x : V) (lo hi mx : Option V) (k : V → Prop) : Prop :=
  match cx.ty t with
  | none => False
  | some ti => match ti.d, x with
    | .str, .str s => match mx with
      | none => bndW lo 0 fun l => bndW hi s.size fun h => need (leN l h && leN h s.size) (k (.str (s.extract l h)))
      | some _ => False
    | .slice e, .snil => match sizeOf cx e with
      | some z => cutRowW z lo hi mx 0 fun _ _ _ => k .snil
      | none => False
    | .slice e, .imm β z' clip es => match sizeOf cx e with
      | some z => cond (z'.beq z) (cutRowW z lo hi mx es.length fun l h m => k (.imm (β && l != h) z (match mx with | none => clip && h == es.length | some _ => m == h) ((es.drop l).take (h - l)))) False
      | none => False
    | .slice e, .sl b o n z' c => match sizeOf cx e with
      | some z => cond (z'.beq z) (cutRowW z lo hi mx n fun l h m => k (.sl b (o + l) (h - l) z (match mx with | none => c.map (· - l) | some _ => some (m - l)))) False
      | none => False
    | _, _ => False
theorem sliceW_ok {t : Nat} {x : V} {lo hi mx : Option V} {k : V → Prop} (h : sliceW cx t x lo hi mx k) : ∃ v, sliceV cx t x lo hi mx = some v ∧ k v := by
  unfold sliceW at h
  split at h
  · exact h.elim
  rename_i ti ht
  split at h
  · rename_i s hd
    split at h
    case h_2 => exact h.elim
    obtain ⟨l, e1, h⟩ := bndW_ok h
    obtain ⟨h', e2, h⟩ := bndW_ok h
    obtain ⟨h1, h2⟩ := need_iff.1 h
    simp only [Bool.and_eq_true, leN, decide_eq_true_eq] at h1
    simp only [sliceV, ht, hd, e1, e2]
    rw [if_pos h1]
    exact ⟨_, rfl, h2⟩
  · rename_i e hd
    split at h
    case h_2 => exact h.elim
    rename_i z hz
    obtain ⟨l, h', m, e1, h2⟩ := cutRowW_ok h
    simp only [sliceV, ht, hd, hz, e1]
    exact ⟨_, rfl, h2⟩
  · rename_i e β z' clip es hd
    split at h
    case h_2 => exact h.elim
    rename_i z hz
    cases hb : z'.beq z with
    | false => rw [hb] at h; exact h.elim
    | true =>
      rw [hb] at h
      obtain ⟨l, h', m, e1, h2⟩ := cutRowW_ok h
      simp only [sliceV, ht, hd, hz]
      rw [if_pos (Nat.eq_of_beq_eq_true hb), e1]
      exact ⟨_, rfl, h2⟩
  · rename_i e b o n z' c hd
    split at h
    case h_2 => exact h.elim
    rename_i z hz
    cases hb : z'.beq z with
    | false => rw [hb] at h; exact h.elim
    | true =>
      rw [hb] at h
      obtain ⟨l, h', m, e1, h2⟩ := cutRowW_ok h
      simp only [sliceV, ht, hd, hz]
      rw [if_pos (Nat.eq_of_beq_eq_true hb), e1]
      exact ⟨_, rfl, h2⟩
  · exact h.elim
def binIW (op : BinOp) (k : IntKind) (a b : Int) (K : V → Prop) : Prop :=
  match op with
  | .quo => need (!(decide (b = 0))) (K (.int k (k.wrap (a.tdiv b))))
  | .rem => need (!(decide (b = 0))) (K (.int k (a.tmod b)))
  | op => getO (binI op k a b) K
theorem binIW_ok {op : BinOp} {k : IntKind} {a b : Int} {K : V → Prop} (h : binIW op k a b K) : ∃ v, binI op k a b = some v ∧ K v := by
  unfold binIW at h
  split at h
  · obtain ⟨h1, h2⟩ := need_iff.1 h
    simp only [Bool.not_eq_true', decide_eq_false_iff_not] at h1
    exact ⟨_, by simp only [binI]; rw [if_neg h1], h2⟩
  · obtain ⟨h1, h2⟩ := need_iff.1 h
    simp only [Bool.not_eq_true', decide_eq_false_iff_not] at h1
    exact ⟨_, by simp only [binI]; rw [if_neg h1], h2⟩
  · exact getO_iff.1 h
def binShiftW (op : BinOp) (k : IntKind) (a b : Int) (K : V → Prop) : Prop :=
  need (leB 0 b) (match op with
  | .shl => K (.int k (k.wrap (a * 2 ^ (min b.toNat k.bits))))
  | .shr => K (.int k (a.fdiv (2 ^ (min b.toNat k.bits))))
  | _ => False)
theorem binShiftW_ok {op : BinOp} {k : IntKind} {a b : Int} {K : V → Prop} (h : binShiftW op k a b K) : ∃ v, binShift op k a b = some v ∧ K v := by
  unfold binShiftW at h
  obtain ⟨h1, h2⟩ := need_iff.1 h
  simp only [leB, decide_eq_true_eq] at h1
  unfold binShift
  rw [if_neg (by omega)]
  split at h2
  · exact ⟨_, rfl, h2⟩
  · exact ⟨_, rfl, h2⟩
  · exact h2.elim
def binW (cx : Cx) (op : BinOp) (t : Nat) (x y : V) (K : V → Prop) : Prop :=
  match x with
  | .int k a => match y with
    | .int k' b => cond (isShift op) (binShiftW op k a b K) (cond (decide (k = k')) (binIW op k a b K) False)
    | y => getO (binV cx op t (.int k a) y) K
  | x => getO (binV cx op t x y) K
theorem binW_ok {op : BinOp} {t : Nat} {x y : V} {K : V → Prop} (h : binW cx op t x y K) : ∃ v, binV cx op t x y = some v ∧ K v := by
  unfold binW at h
  split at h
  · split at h
    · simp only [binV]
      cases hs : isShift op with
      | true => rw [hs] at h; exact binShiftW_ok h
      | false =>
        rw [hs, cond_false] at h
        rename_i k a _ k' b
        by_cases hk : k = k'
        · simp only [hk, decide_true, cond_true] at h
          simp only [hk, if_true, Bool.false_eq_true, if_false]
          exact binIW_ok h
        · simp only [hk, decide_false, cond_false] at h
    · exact getO_iff.1 h
  · exact getO_iff.1 h
end Go.Ev
end

section
set_option linter.unusedVariables false
set_option linter.unusedSimpArgs false
namespace Go.Ev
variable {P : Program} {cx : Cx} {en : En}
/-! #### regions without calls: what stands under a condition is worked out as a value -/
def isPure : Op → Bool
  | .move _ | .assign _ | .pick .. | .load .. | .unOp .. | .fieldAddr .. | .field .. | .extract .. => true
  | .binOp op _ _ _ _ => match op with
    | .add | .sub | .mul | .eql | .neq | .lss | .leq | .gtr | .geq => true
    | _ => false
  | _ => false
theorem keep_h' {h : Hp} {o : Option V} {p : V × Hp} (e : keep h o = some p) : p.2 = h := by cases o <;> cases e; rfl
theorem pure_h {s : St} {op : Op} {p : V × Hp} (hp : isPure op = true) (e : opP cx s op = some p) : p.2 = s.h := by
  cases op <;> simp only [isPure, Bool.false_eq_true] at hp <;> simp only [opP] at e
  case move => exact keep_h' e
  case assign => exact keep_h' e
  case pick => unfold opPick at e; split at e <;> first | exact keep_h' e | cases e
  case load => unfold opLoad at e; split at e <;> first | exact keep_h' e | cases e
  case unOp => unfold opUn at e; split at e <;> first | exact keep_h' e | cases e
  case fieldAddr => unfold opFieldAddr at e; split at e <;> first | exact keep_h' e | cases e
  case field => unfold opField at e; split at e <;> first | exact keep_h' e | cases e
  case extract => unfold opExtract at e; split at e <;> first | exact keep_h' e | cases e
  case binOp => unfold opBin at e; split at e <;> first | exact keep_h' e | cases e
def mergeV (b : Bool) (x y : V) : V :=
  match x with
  | .bool p => match y with
    | .bool q => .bool (cond b p q)
    | y => cond b (.bool p) y
  | .int k p => match y with
    | .int k' q => cond (decide (k = k')) (.int k (cond b p q)) (cond b (.int k p) (.int k' q))
    | y => cond b (.int k p) y
  | x => cond b x y
theorem mergeV_true (x y : V) : mergeV true x y = x := by
  unfold mergeV
  split
  · split <;> rfl
  · split
    · rename_i k p _ k' q; cases decide (k = k') <;> rfl
    · rfl
  · rfl
theorem mergeV_false (x y : V) : mergeV false x y = y := by
  unfold mergeV
  split
  · split <;> rfl
  · split
    · rename_i k p _ k' q
      by_cases h : k = k'
      · subst h; simp
      · simp [h]
    · rfl
  · rfl
def opM (cx : Cx) (tm : List V) (h : Hp) (op : Op) : Option V :=
  match op with
  | .pick c a b => match ev tm c with
    | some (.bool c) => match ev tm a with
      | some x => match ev tm b with
        | some y => some (mergeV c x y)
        | none => none
      | none => none
    | _ => none
  | op => match opP cx ⟨tm, h⟩ op with
    | some p => some p.1
    | none => none
theorem opM_ok {tm : List V} {h : Hp} {op : Op} {v : V} (hp : isPure op = true) (e : opM cx tm h op = some v) : opP cx ⟨tm, h⟩ op = some (v, h) := by
  unfold opM at e
  split at e
  · rename_i c a b
    split at e
    case h_2 => cases e
    rename_i t ht
    split at e
    case h_2 => cases e
    rename_i x hx
    split at e
    case h_2 => cases e
    rename_i y hy
    cases e
    simp only [opP, opPick, ht, hx, hy]
    cases t with
    | true => simp [mergeV_true, keep]
    | false => simp [mergeV_false, keep]
  · split at e
    · rename_i p hq
      cases e
      rw [hq]
      have := pure_h hp hq
      simp only at this
      rw [← this]
    · cases e
def putL (tm : List V) (d : Option Nat) (v : V) : List V := match d with | some d => tm.set d v | none => tm
theorem put_putL (tm : List V) (h : Hp) (d : Option Nat) (v : V) : St.put ⟨tm, h⟩ d v = ⟨putL tm d v, h⟩ := by cases d <;> rfl
abbrev Gd := Option (Nat × Bool)
def sameG : Gd → Gd → Bool
  | none, none => true
  | some (a, x), some (b, y) => a.beq b && x == y
  | _, _ => false
theorem sameG_eq : ∀ {a b : Gd}, sameG a b = true → a = b
  | none, none, _ => rfl
  | some (a, x), some (b, y), h => by
    simp only [sameG, Bool.and_eq_true, beq_iff_eq] at h
    rw [Nat.eq_of_beq_eq_true h.1, h.2]
  | none, some _, h => by cases h
  | some _, none, h => by cases h
/-- the places that operations write -/
def wrs : List Oper → Nat
  | [] => 0
  | o :: r => (match o.dst with | some d => 2 ^ d | none => 0) ||| wrs r
def undAll (tm : List V) : List Oper → List V
  | [] => tm
  | o :: r => undAll (putL tm o.dst .und) r
def mrg (c : Bool) (D : Nat) : Nat → List V → List V → List V
  | i, x :: xs, y :: ys => cond (D.testBit i) (cond c x y) y :: mrg c D (i + 1) xs ys
  | _, _, _ => []
/-- may a block be left out as a whole? 'acc': what it has written so far -/
def blockOk (ops : List Oper) (j d : Nat) (w : Bool) (acc : Nat) : List Oper → Bool
  | [] => true
  | o :: r => (match o.guard with
      | none => false
      | some (j2, w2) => (j2.beq j && w2 == w) || (match gTmp ops j2 with | some d2 => acc.testBit d2 | none => true)) &&
    (match o.dst with | some e => !(e.beq d) && blockOk ops j d w (acc ||| 2 ^ e) r | none => blockOk ops j d w acc r)
def runN (cx : Cx) (ops : List Oper) : Nat → Gd → List Oper → List V → Hp → Option (List V)
  | 0, _, _, _, _ => none
  | _ + 1, _, [], tm, _ => some tm
  | n + 1, g, o :: r, tm, h =>
    match sameG o.guard g with
    | true => match isPure o.op with
      | true => match opM cx tm h o.op with
        | some v => runN cx ops n g r (putL tm o.dst v) h
        | none => none
      | false => none
    | false => match o.guard with
      | none => none
      | some (j, w) => match gTmp ops j with
        | none => none
        | some d => match tm[d]? with
          | some (.bool b) =>
            match (o :: r).dropWhile (fun x => !sameG x.guard g) with
            | [] => none
            | p :: R => match p.op with
              | .pick (.tmp c) x y => match (o :: r).takeWhile (fun x => !sameG x.guard g) with
                | N => match c.beq d && blockOk ops j d w 0 N with
                  | true => match runN cx ops n (some (j, w)) N tm h with
                    | some tm1 => match ev (cond w tm1 (undAll tm N)) x with
                      | some vx => match ev (cond w (undAll tm N) tm1) y with
                        | some vy => runN cx ops n g R (putL (mrg (b == w) (wrs N) 0 tm1 (undAll tm N)) p.dst (mergeV b vx vy)) h
                        | none => none
                      | none => none
                    | none => none
                  | false => none
              | _ => none
          | _ => none
theorem evOps_append {ops : List Oper} {k : St → M} : ∀ (a b : List Oper) (s : St), evOps cx ops (a ++ b) s k = evOps cx ops a s (fun s' => evOps cx ops b s' k)
  | [], b, s => rfl
  | o :: a, b, s => by
    simp only [List.cons_append, evOps]
    split
    · congr 1
      funext v h
      exact evOps_append a b _
    · exact evOps_append a b _
theorem wrs_bit {l : List Oper} {t : Nat} (h : (wrs l).testBit t = false) : ∀ o ∈ l, o.dst ≠ some t := by
  induction l with
  | nil => intro o ho; cases ho
  | cons p r ih =>
    simp only [wrs, Nat.testBit_or, Bool.or_eq_false_iff] at h
    intro o ho
    rcases List.mem_cons.1 ho with rfl | ho
    · intro e
      rw [e] at h
      simp only [testBit_pow] at h
      simp at h
    · exact ih h.2 o ho
theorem putL_ne {tm : List V} {d : Option Nat} {v : V} {t : Nat} (h : d ≠ some t) : (putL tm d v)[t]? = tm[t]? := by
  cases d with
  | none => rfl
  | some d =>
    have : d ≠ t := fun e => h (by rw [e])
    simp [putL, List.getElem?_set, this]
theorem putL_len {tm : List V} {d : Option Nat} {v : V} : (putL tm d v).length = tm.length := by cases d <;> simp [putL]
theorem undAll_ne {t : Nat} : ∀ {l : List Oper} {tm : List V}, (∀ o ∈ l, o.dst ≠ some t) → (undAll tm l)[t]? = tm[t]?
  | [], _, _ => rfl
  | o :: r, tm, h => by
    simp only [undAll]
    rw [undAll_ne fun o' ho => h o' (by simp [ho]), putL_ne (h o (by simp))]
theorem undAll_len : ∀ {l : List Oper} {tm : List V}, (undAll tm l).length = tm.length
  | [], _ => rfl
  | o :: r, tm => by simp only [undAll]; rw [undAll_len, putL_len]
theorem mrg_false : ∀ (D i : Nat) (x y : List V), x.length = y.length → mrg false D i x y = y
  | _, _, [], [], _ => rfl
  | D, i, x :: xs, y :: ys, h => by
    simp only [mrg]
    rw [mrg_false D (i + 1) xs ys (by simpa using h)]
    cases D.testBit i <;> rfl
  | _, _, [], _ :: _, h => by simp at h
  | _, _, _ :: _, [], h => by simp at h
theorem mrg_true : ∀ (D i : Nat) (x y : List V), x.length = y.length → (∀ t, D.testBit (i + t) = false → x[t]? = y[t]?) → mrg true D i x y = x
  | _, _, [], [], _, _ => rfl
  | D, i, x :: xs, y :: ys, h, he => by
    simp only [mrg]
    rw [mrg_true D (i + 1) xs ys (by simpa using h) fun t ht => by
      have := he (t + 1) (by rw [← ht]; congr 1; omega)
      simpa using this]
    cases hb : D.testBit i with
    | true => rfl
    | false =>
      have := he 0 (by simpa using hb)
      simp only [List.getElem?_cons_zero, Option.some.injEq] at this
      rw [this]; rfl
  | _, _, [], _ :: _, h, _ => by simp at h
  | _, _, _ :: _, [], h, _ => by simp at h
/-- a block that is left out -/
theorem skip_ok {ops : List Oper} {j d : Nat} {w b : Bool} {h : Hp} (hj : gTmp ops j = some d) (hbw : (b == w) = false) : ∀ (l : List Oper) (acc : Nat) (tm : List V), blockOk ops j d w acc l = true → tm[d]? = some (.bool b) →
    (∀ t, acc.testBit t = true → ∀ c, tm[t]? ≠ some (.bool c)) → ∀ k, evOps cx ops l ⟨tm, h⟩ k = k ⟨undAll tm l, h⟩
  | [], _, _, _, _, _, _ => rfl
  | o :: r, acc, tm, hok, hd, hacc, k => by
    simp only [blockOk, Bool.and_eq_true] at hok
    obtain ⟨h1, h2⟩ := hok
    have hw : wanted ops tm o = false := by
      unfold wanted
      cases hg : o.guard with
      | none => rw [hg] at h1; cases h1
      | some jw =>
        obtain ⟨j2, w2⟩ := jw
        rw [hg] at h1
        simp only [Bool.or_eq_true, Bool.and_eq_true, beq_iff_eq] at h1 ⊢
        rcases h1 with ⟨e1, e2⟩ | h1
        · have e1 := Nat.eq_of_beq_eq_true e1
          subst e1; subst e2
          simp only [gTmp] at hj
          cases ho : ops[j2]? with
          | none => rfl
          | some oj =>
            rw [ho] at hj
            simp only at hj ⊢
            rw [hj]
            simp only [hd]
            exact hbw
        · simp only [gTmp] at h1
          cases ho : ops[j2]? with
          | none => rfl
          | some oj =>
            rw [ho] at h1
            simp only at h1 ⊢
            cases hdd : oj.dst with
            | none => rfl
            | some d2 =>
              rw [hdd] at h1
              simp only at h1 ⊢
              cases ht : tm[d2]? with
              | none => rfl
              | some v =>
                cases v with
                | bool c => exact absurd ht (hacc d2 h1 c)
                | _ => rfl
    have step : ∀ tm', tm' = putL tm o.dst .und → evOps cx ops (o :: r) ⟨tm, h⟩ k = evOps cx ops r ⟨tm', h⟩ k := fun tm' e => by
      simp only [evOps, hw, Bool.false_eq_true, if_false]
      rw [put_putL, e]
    rw [step _ rfl]
    have und : ∀ (e : Nat) (c : Bool), (tm.set e V.und)[e]? ≠ some (.bool c) := fun e c hc => by
      simp only [List.getElem?_set] at hc
      split at hc
      · split at hc
        · simp [V.und] at hc
        · cases hc
      · rename_i hne; exact absurd trivial hne
    cases hdst : o.dst with
    | none =>
      rw [hdst] at h2
      simp only [undAll, hdst, putL]
      exact skip_ok hj hbw r acc tm h2 hd hacc k
    | some e =>
      rw [hdst] at h2
      simp only [Bool.and_eq_true, Bool.not_eq_true'] at h2
      have hne : e ≠ d := fun he => by rw [he, Nat.beq_refl] at h2; cases h2.1
      simp only [undAll, hdst, putL]
      refine skip_ok hj hbw r (acc ||| 2 ^ e) (tm.set e .und) h2.2 ?_ ?_ k
      · simp [List.getElem?_set, hne, hd]
      · intro t ht c
        rw [Nat.testBit_or, testBit_pow, Bool.or_eq_true] at ht
        by_cases het : e = t
        · subst het; exact und e c
        · rcases ht with ht | ht
          · simp only [List.getElem?_set, het, if_false]; exact hacc t ht c
          · simp [het] at ht
theorem blockOk_ne {ops : List Oper} {j d : Nat} {w : Bool} : ∀ {l : List Oper} {acc : Nat}, blockOk ops j d w acc l = true → ∀ o ∈ l, o.dst ≠ some d
  | [], _, _, o, ho => by cases ho
  | p :: r, acc, h, o, ho => by
    simp only [blockOk, Bool.and_eq_true] at h
    obtain ⟨_, h2⟩ := h
    cases hd : p.dst with
    | none =>
      rw [hd] at h2
      rcases List.mem_cons.1 ho with rfl | ho
      · rw [hd]; simp
      · exact blockOk_ne h2 o ho
    | some e =>
      rw [hd] at h2
      simp only [Bool.and_eq_true, Bool.not_eq_true'] at h2
      rcases List.mem_cons.1 ho with rfl | ho
      · rw [hd]
        intro he
        cases he
        rw [Nat.beq_refl] at h2; cases h2.1
      · exact blockOk_ne h2.2 o ho
/-- the guard is met, and nothing that comes turns it -/
def Met (ops : List Oper) (tm : List V) (l : List Oper) : Gd → Prop
  | none => True
  | some (j, w) => ∃ d, gTmp ops j = some d ∧ tm[d]? = some (.bool w) ∧ ∀ o ∈ l, o.dst ≠ some d
theorem Met.wanted {ops : List Oper} {tm : List V} {l : List Oper} {g : Gd} {o : Oper} (h : Met ops tm l g) (ho : o.guard = g) : wanted ops tm o = true := by
  unfold Go.Ev.wanted
  rw [ho]
  cases g with
  | none => rfl
  | some jw =>
    obtain ⟨j, w⟩ := jw
    obtain ⟨d, h1, h2, _⟩ := h
    simp only [gTmp] at h1
    cases hj : ops[j]? with
    | none => rw [hj] at h1; cases h1
    | some oj =>
      rw [hj] at h1
      simp only at h1
      simp only [hj, h1, h2, beq_self_eq_true]
theorem Met.step {ops : List Oper} {tm tm' : List V} {l l' : List Oper} {g : Gd} (h : Met ops tm l g) (ht : ∀ d, (∀ o ∈ l, o.dst ≠ some d) → tm'[d]? = tm[d]?) (hl : ∀ o ∈ l', o ∈ l) : Met ops tm' l' g := by
  cases g with
  | none => trivial
  | some jw =>
    obtain ⟨j, w⟩ := jw
    obtain ⟨d, h1, h2, h3⟩ := h
    exact ⟨d, h1, by rw [ht d h3, h2], fun o ho => h3 o (hl o ho)⟩
theorem runN_ok {ops : List Oper} : ∀ (n : Nat) (g : Gd) (l : List Oper) (tm : List V) (h : Hp) (tm' : List V), runN cx ops n g l tm h = some tm' → Met ops tm l g →
    tm'.length = tm.length ∧ (∀ t, (∀ o ∈ l, o.dst ≠ some t) → tm'[t]? = tm[t]?) ∧ ∀ k, evOps cx ops l ⟨tm, h⟩ k = k ⟨tm', h⟩
  | 0, _, _, _, _, _, e, _ => by simp [runN] at e
  | n + 1, g, [], tm, h, tm', e, _ => by
    simp only [runN, Option.some.injEq] at e
    subst e
    exact ⟨rfl, fun _ _ => rfl, fun k => rfl⟩
  | n + 1, g, o :: r, tm, h, tm', e, hm => by
    simp only [runN] at e
    split at e
    · rename_i hs
      have hg := sameG_eq hs
      split at e
      case h_2 => cases e
      rename_i hp
      split at e
      case h_2 => cases e
      rename_i v hv
      have hop := opM_ok hp hv
      obtain ⟨i1, i2, i3⟩ := runN_ok n g r _ h tm' e (hm.step (fun d hd => putL_ne (hd o (by simp))) (fun x hx => by simp [hx]))
      refine ⟨by rw [i1, putL_len], fun t ht => by rw [i2 t fun x hx => ht x (by simp [hx]), putL_ne (ht o (by simp))], fun k => ?_⟩
      simp only [evOps, hm.wanted hg, if_true]
      have : ∀ K : V → Hp → M, evOp cx ⟨tm, h⟩ o K = K v h := fun K => by
        unfold evOp
        split
        · rename_i c hc; rw [hc] at hp; cases hp
        · rw [hop]
      rw [this, put_putL]
      exact i3 k
    · rename_i hs
      split at e
      · cases e
      rename_i j w hog
      split at e
      · cases e
      rename_i d hd
      split at e
      case h_2 => cases e
      rename_i b hb
      split at e
      · cases e
      rename_i p R hR
      split at e
      case h_2 => cases e
      rename_i c x y hpop
      generalize hN : (o :: r).takeWhile (fun x => !sameG x.guard g) = N at e
      split at e
      case h_2 => cases e
      rename_i hck
      split at e
      case h_2 => cases e
      rename_i tm1 htm1
      split at e
      case h_2 => cases e
      rename_i vx hvx
      split at e
      case h_2 => cases e
      rename_i vy hvy
      simp only [Bool.and_eq_true] at hck
      obtain ⟨hcd, hblk⟩ := hck
      have hcd := Nat.eq_of_beq_eq_true hcd
      subst hcd
      have hsplit : o :: r = N ++ p :: R := by rw [← hN, ← hR, List.takeWhile_append_dropWhile]
      have hpg : p.guard = g := by
        have : ¬ ((fun x : Oper => !sameG x.guard g) p = true) := by
          have hh := List.head?_dropWhile_not (fun x : Oper => !sameG x.guard g) (o :: r)
          rw [hR] at hh
          simpa using hh
        simp only [Bool.not_eq_true', Bool.not_eq_false] at this
        exact sameG_eq (by simpa using this)
      have hmemN : ∀ q ∈ N, q ∈ o :: r := fun q hq => by rw [hsplit]; simp [hq]
      have hmemR : ∀ q ∈ R, q ∈ o :: r := fun q hq => by rw [hsplit]; simp [hq]
      have hmemp : p ∈ o :: r := by rw [hsplit]; simp
      have hneN := blockOk_ne hblk
      have hU : ∀ t, (∀ q ∈ N, q.dst ≠ some t) → (undAll tm N)[t]? = tm[t]? := fun t ht => undAll_ne ht
      -- what the block comes to
      have main : ∀ (tm2 : List V) (hlen : tm2.length = tm.length) (hfr : ∀ t, (∀ q ∈ N, q.dst ≠ some t) → tm2[t]? = tm[t]?) (hrun : ∀ k, evOps cx ops N ⟨tm, h⟩ k = k ⟨tm2, h⟩) (v : V) (hv : ev tm2 (if b then x else y) = some v)
          (e : runN cx ops n g R (putL tm2 p.dst v) h = some tm'),
          tm'.length = tm.length ∧ (∀ t, (∀ q ∈ o :: r, q.dst ≠ some t) → tm'[t]? = tm[t]?) ∧ ∀ k, evOps cx ops (o :: r) ⟨tm, h⟩ k = k ⟨tm', h⟩ := by
        intro tm2 hlen hfr hrun v hv e
        have hm2 : Met ops tm2 (p :: R) g := hm.step (fun d hd => hfr d fun q hq => hd q (hmemN q hq)) (fun q hq => by
          rcases List.mem_cons.1 hq with rfl | hq
          · exact hmemp
          · exact hmemR q hq)
        obtain ⟨i1, i2, i3⟩ := runN_ok n g R _ h tm' e (hm2.step (fun d hd => putL_ne (hd p (by simp))) (fun q hq => by simp [hq]))
        refine ⟨by rw [i1, putL_len, hlen], fun t ht => by rw [i2 t fun q hq => ht q (hmemR q hq), putL_ne (ht p hmemp), hfr t fun q hq => ht q (hmemN q hq)], fun k => ?_⟩
        rw [hsplit, evOps_append, hrun]
        simp only [evOps, hm2.wanted hpg, if_true]
        have hc2 : ev tm2 (.tmp c) = some (.bool b) := by
          simp only [ev]
          rw [hfr c hneN, hb]
        have : ∀ K : V → Hp → M, evOp cx ⟨tm2, h⟩ p K = K v h := fun K => by
          unfold evOp
          rw [hpop]
          simp only [opP, opPick, hc2]
          cases b with
          | true => simp only [if_true] at hv ⊢; rw [hv]; rfl
          | false => simp only [Bool.false_eq_true, if_false] at hv ⊢; rw [hv]; rfl
        rw [this, put_putL]
        exact i3 k
      cases hbw : b == w with
      | true =>
        have hbw' : b = w := by simpa using hbw
        obtain ⟨j1, j2, j3⟩ := runN_ok n (some (j, w)) N tm h tm1 htm1 ⟨c, hd, by rw [hb, hbw'], hneN⟩
        have hmg : mrg (b == w) (wrs N) 0 tm1 (undAll tm N) = tm1 := by
          rw [hbw]
          refine mrg_true _ _ _ _ (by rw [j1, undAll_len]) fun t ht => ?_
          simp only [Nat.zero_add] at ht
          have hne := wrs_bit ht
          rw [j2 t hne, hU t hne]
        rw [hmg] at e
        refine main tm1 j1 j2 j3 _ ?_ e
        subst hbw'
        cases b with
        | true => simp only [if_true, mergeV_true]; exact hvx
        | false => simp only [Bool.false_eq_true, if_false, mergeV_false]; exact hvy
      | false =>
        have hmg : mrg (b == w) (wrs N) 0 tm1 (undAll tm N) = undAll tm N := by
          rw [hbw]
          obtain ⟨j1, _, _⟩ : tm1.length = tm.length ∧ True ∧ True := ⟨runN_len n _ N tm h tm1 htm1, trivial, trivial⟩
          exact mrg_false _ _ _ _ (by rw [j1, undAll_len])
        rw [hmg] at e
        refine main (undAll tm N) undAll_len hU (skip_ok hd hbw N 0 tm hblk hb (fun t ht => by simp at ht)) _ ?_ e
        cases b with
        | true =>
          cases w with
          | true => cases hbw
          | false => simp only [if_true, mergeV_true]; exact hvx
        | false =>
          cases w with
          | true => simp only [Bool.false_eq_true, if_false, mergeV_false]; exact hvy
          | false => cases hbw
where
  runN_len {ops : List Oper} : ∀ (n : Nat) (g : Gd) (l : List Oper) (tm : List V) (h : Hp) (tm' : List V), runN cx ops n g l tm h = some tm' → tm'.length = tm.length
  | 0, _, _, _, _, _, e => by simp [runN] at e
  | n + 1, g, [], tm, h, tm', e => by
    simp only [runN, Option.some.injEq] at e
    rw [e]
  | n + 1, g, o :: r, tm, h, tm', e => by
    simp only [runN] at e
    repeat' (split at e <;> try cases e)
    · rw [runN_len n _ _ _ _ _ e, putL_len]
    · rename_i tm1 htm1 _ _ _ _ _ _
      rw [runN_len n _ _ _ _ _ e, putL_len]
      have := runN_len n _ _ _ _ _ htm1
      have key : ∀ (c : Bool) (D i : Nat) (x y : List V), x.length = y.length → (mrg c D i x y).length = y.length := by
        intro c D i x
        induction x generalizing i with
        | nil => intro y hy; cases y <;> simp [mrg] at hy ⊢
        | cons a x ih => intro y hy; cases y with
          | nil => simp at hy
          | cons q y => simp only [mrg, List.length_cons]; rw [ih (i + 1) y (by simpa using hy)]
      rw [key _ _ _ _ _ (by rw [this, undAll_len]), undAll_len]
/-- may a region be worked out so? -/
def specR (ops : List Oper) : Bool := ops.any (fun o => o.guard.isSome) && ops.all fun o => isPure o.op
end Go.Ev
end

section
set_option linter.unusedVariables false
set_option linter.unusedSimpArgs false
namespace Go.Ev
variable {P : Program} {cx : Cx} {en : En}
def growW (h : Hp) (z : Nat) (rows : List (List V)) (x : V) (k : V → Hp → Prop) : Prop :=
  match x with
  | .snil => k (.sl h.next 0 rows.length z none) (h.add (.cells rows z))
  | .imm _ _ clip _ => need clip (k (.sl h.next 0 rows.length z none) (h.add (.cells rows z)))
  | .sl b _ _ _ c => brW (capLt c rows.length) (k (.sl h.next 0 rows.length z none) (h.add (.cells rows z))) (k (.sl h.next 0 rows.length z none) ((h.put b .dead).add (.cells rows z)))
  | _ => False
theorem growW_ok {h : Hp} {z : Nat} {rows : List (List V)} {x : V} {k : V → Hp → Prop} (hk : growW h z rows x k) : ∃ v h', grow h z rows x = some (v, h') ∧ k v h' := by
  unfold growW at hk
  split at hk
  · exact ⟨_, _, rfl, hk⟩
  · obtain ⟨h1, h2⟩ := need_iff.1 hk
    subst h1
    exact ⟨_, _, rfl, h2⟩
  · rename_i b _ _ _ c
    simp only [grow]
    cases hc : capLt c rows.length with
    | true => rw [hc] at hk; exact ⟨_, _, rfl, hk⟩
    | false => rw [hc] at hk; exact ⟨_, _, rfl, hk⟩
  · exact hk.elim
def srcRows (h : Hp) (z : Nat) (x : V) : Option (List (List V)) := match x with | .str b => if z = 1 then some (strRows b) else none | x => rowOf h z x
def appendW (cx : Cx) (h : Hp) (t : Nat) (s x : V) (k : V → Hp → Prop) : Prop :=
  match cx.ty t with
  | some ti => match ti.d with
    | .slice e => match cx.ty e with
      | some te => getO (rowOf h te.size s) fun old => getO (srcRows h te.size x) fun new =>
          brW new.isEmpty (k s h) (need (leN ((old.length + new.length) * te.bytes) (2 ^ 46) && leN (old.length + new.length) (2 ^ 46) && !(te.size.beq 0) && !(te.bytes.beq 0) && (match zeroCl cx e with | some l => l.length.beq te.size | none => false))
            (growW h te.size (old ++ new) s k))
      | none => False
    | _ => False
  | none => False
theorem appendW_ok {h : Hp} {t : Nat} {s x : V} {k : V → Hp → Prop} (hk : appendW cx h t s x k) : ∃ v h', appendV cx h t s x = some (v, h') ∧ k v h' := by
  unfold appendW at hk
  split at hk
  case h_2 => exact hk.elim
  rename_i ti ht
  split at hk
  case h_2 => exact hk.elim
  rename_i e hd
  split at hk
  case h_2 => exact hk.elim
  rename_i te hte
  obtain ⟨old, h1, hk⟩ := getO_iff.1 hk
  obtain ⟨new, h2, hk⟩ := getO_iff.1 hk
  have e0 : appendV cx h t s x = (match rowOf h te.size s, srcRows h te.size x with
    | some old, some new => if new.isEmpty then some (s, h) else
          if (old.length + new.length) * te.bytes ≤ 2 ^ 46 ∧ old.length + new.length ≤ 2 ^ 46 ∧ 0 < te.size ∧ 0 < te.bytes ∧ (zeroCl cx e).map List.length = some te.size then grow h te.size (old ++ new) s else none
    | _, _ => none) := by simp only [appendV, ht, hd, hte]; rfl
  rw [e0, h1, h2]
  simp only
  cases hn : new.isEmpty with
  | true => rw [hn] at hk; exact ⟨_, _, rfl, hk⟩
  | false =>
    rw [hn] at hk
    simp only [brW, cond_false] at hk
    obtain ⟨h3, hk⟩ := need_iff.1 hk
    simp only [Bool.and_eq_true, leN, decide_eq_true_eq, Bool.not_eq_true'] at h3
    obtain ⟨⟨⟨⟨a1, a2⟩, a3⟩, a4⟩, a5⟩ := h3
    have b3 : 0 < te.size := by
      rcases Nat.eq_zero_or_pos te.size with e | e
      · rw [e] at a3; cases a3
      · exact e
    have b4 : 0 < te.bytes := by
      rcases Nat.eq_zero_or_pos te.bytes with e | e
      · rw [e] at a4; cases a4
      · exact e
    have b5 : (zeroCl cx e).map List.length = some te.size := by
      split at a5
      · rename_i l hl
        rw [hl]
        simp only [Option.map_some, Option.some.injEq]
        exact Nat.eq_of_beq_eq_true a5
      · cases a5
    rw [if_neg (by simp), if_pos ⟨a1, a2, b3, b4, b5⟩]
    exact growW_ok hk
def builtinW (cx : Cx) (h : Hp) (b : Builtin) (ts : List Nat) (args : List V) (k : V → Hp → Prop) : Prop :=
  match b with
  | .append => match args with
    | [s, x] => match ts with
      | [t, u] => match cx.ty u with
        | some ui => match ui.d with
          | .int _ => False
          | _ => appendW cx h t s x k
        | none => False
      | _ => False
    | _ => False
  | b => getO (builtinV cx h b ts args) fun p => k p.1 p.2
theorem builtinW_ok {h : Hp} {b : Builtin} {ts : List Nat} {args : List V} {k : V → Hp → Prop} (hk : builtinW cx h b ts args k) : ∃ v h', builtinV cx h b ts args = some (v, h') ∧ k v h' := by
  unfold builtinW at hk
  split at hk
  · split at hk
    case h_2 => exact hk.elim
    split at hk
    case h_2 => exact hk.elim
    split at hk
    case h_2 => exact hk.elim
    rename_i ui hu
    split at hk
    · exact hk.elim
    · rename_i hne
      obtain ⟨v, h', e, hk⟩ := appendW_ok hk
      refine ⟨v, h', ?_, hk⟩
      simp only [builtinV, hu]
      exact e
  · obtain ⟨⟨v, h'⟩, e, hk⟩ := getO_iff.1 hk
    exact ⟨v, h', e, hk⟩
def mkSliceW (cx : Cx) (h : Hp) (t : Nat) (x y : V) (k : V → Hp → Prop) : Prop :=
  match cx.ty t, x, y with
  | some ti, .int _ l, .int _ c => match ti.d with
    | .slice e => match cx.ty e with
      | some te => match zeroCl cx e with
        | some z => need (leB 0 l && decide (l = c) && leB (l * te.bytes) (2 ^ 46) && leB l (2 ^ 46) && z.length.beq te.size && !(te.size.beq 0))
            (k (.sl h.next 0 l.toNat te.size (some l.toNat)) (h.add (.cells (List.replicate l.toNat z) te.size)))
        | none => False
      | none => False
    | _ => False
  | _, _, _ => False
theorem mkSliceW_ok {s : St} {t : Nat} {l c : Operand} {x y : V} {k : V → Hp → Prop} (hx : ev s.tm l = some x) (hy : ev s.tm c = some y) (hk : mkSliceW cx s.h t x y k) : ∃ v h', opMkSlice cx s t l c = some (v, h') ∧ k v h' := by
  unfold mkSliceW at hk
  split at hk
  case h_2 => exact hk.elim
  rename_i ti _ l' _ c' ht
  split at hk
  case h_2 => exact hk.elim
  rename_i e hd
  split at hk
  case h_2 => exact hk.elim
  rename_i te hte
  split at hk
  case h_2 => exact hk.elim
  rename_i z hz
  obtain ⟨h3, hk⟩ := need_iff.1 hk
  simp only [Bool.and_eq_true, leB, decide_eq_true_eq, Bool.not_eq_true'] at h3
  obtain ⟨⟨⟨⟨⟨a1, a2⟩, a3⟩, a4⟩, a5⟩, a6⟩ := h3
  have b6 : 0 < te.size := by
    rcases Nat.eq_zero_or_pos te.size with e | e
    · rw [e] at a6; cases a6
    · exact e
  refine ⟨_, _, ?_, hk⟩
  simp only [opMkSlice, ht, hx, hy, hd, hte, hz]
  rw [if_pos ⟨a1, a2, a3, a4, Nat.eq_of_beq_eq_true a5, b6⟩]
/-- a number below n, told apart -/
def splitR : Nat → Int → (Int → Prop) → Prop
  | 0, _, _ => False
  | n + 1, x, K => brW (decide (x = n)) (K n) (splitR n x K)
theorem splitR_ok {x : Int} {K : Int → Prop} : ∀ {n : Nat}, splitR n x K → K x
  | 0, h => h.elim
  | n + 1, h => by
    obtain ⟨h1, h2⟩ := brW_iff.1 h
    cases hd : decide (x = (n : Int)) with
    | true =>
      have := of_decide_eq_true hd
      rw [this]; exact h1 hd
    | false => exact splitR_ok (h2 hd)
def remW (k : IntKind) (a : Int) (b : Int) (K : V → Prop) : Prop :=
  match b with
  | .ofNat m => need (!(m.beq 0)) (splitR m (a.tmod b) fun n => K (.int k n))
  | _ => False
def remVW (x y : V) (K : V → Prop) : Prop :=
  match x, y with
  | .int k a, .int k' b => need (decide (k = k')) (remW k a b K)
  | _, _ => False
theorem remVW_ok {cx : Cx} {t : Nat} {x y : V} {K : V → Prop} (h : remVW x y K) : ∃ v, binV cx .rem t x y = some v ∧ K v := by
  unfold remVW at h
  split at h
  case h_2 => exact h.elim
  rename_i k a k' b
  obtain ⟨h1, h2⟩ := need_iff.1 h
  have hk := of_decide_eq_true h1
  subst hk
  unfold remW at h2
  split at h2
  case h_2 => exact h2.elim
  rename_i m
  obtain ⟨h3, h4⟩ := need_iff.1 h2
  have hm : m ≠ 0 := fun e => by rw [e] at h3; cases h3
  refine ⟨.int k (a.tmod (.ofNat m)), ?_, splitR_ok h4⟩
  simp only [binV, isShift, Bool.false_eq_true, if_false, if_true, binI]
  rw [if_neg (by simp; exact hm)]
/-- an operation that calls nothing -/
def opW (cx : Cx) (en : En) (s : St) (o : Op) (k : V → Hp → Prop) : Prop :=
  match o with
  | .pick c a b => match ev s.tm c with
    | some (.bool c) => brW c (getO (ev s.tm a) fun v => k v s.h) (getO (ev s.tm b) fun v => k v s.h)
    | _ => False
  | .binOp op t x y _ => getO (ev s.tm x) fun x => getO (ev s.tm y) fun y => match en.rm, op with
    | true, .rem => remVW x y fun v => k v s.h
    | _, op => binW cx op t x y fun v => k v s.h
  | .makeSlice t l c => getO (ev s.tm l) fun x => getO (ev s.tm c) fun y => mkSliceW cx s.h t x y k
  | .slice t x lo hi mx => getO (ev s.tm x) fun x => getO (optEv s.tm lo) fun lo => getO (optEv s.tm hi) fun hi => getO (optEv s.tm mx) fun mx => sliceW cx t x lo hi mx fun v => k v s.h
  | .indexAddr t x i => getO (ev s.tm x) fun x => getO (ev s.tm i) fun i => addrIndexW cx en t x i fun v => k v s.h
  | .index t x i => getO (ev s.tm x) fun x => getO (ev s.tm i) fun i => indexW cx t x i fun v => k v s.h
  | o => getO (opP cx s o) fun p => k p.1 p.2
theorem opW_ok (he : EnOk cx en) {s : St} {o : Op} {k : V → Hp → Prop} (hk : opW cx en s o k) : ∃ v h', opP cx s o = some (v, h') ∧ k v h' := by
  unfold opW at hk
  split at hk
  · rename_i c a b
    split at hk
    case h_2 => exact hk.elim
    rename_i t ht
    simp only [opP, opPick, ht]
    cases t with
    | true =>
      obtain ⟨v, e, hk⟩ := getO_iff.1 hk
      exact ⟨v, s.h, by simp [e, keep], hk⟩
    | false =>
      obtain ⟨v, e, hk⟩ := getO_iff.1 hk
      exact ⟨v, s.h, by simp [e, keep], hk⟩
  · obtain ⟨x, e1, hk⟩ := getO_iff.1 hk
    obtain ⟨y, e2, hk⟩ := getO_iff.1 hk
    split at hk
    · obtain ⟨v, e3, hk⟩ := remVW_ok (cx := cx) hk
      exact ⟨v, s.h, by simp only [opP, opBin, e1, e2]; rw [e3]; rfl, hk⟩
    · obtain ⟨v, e3, hk⟩ := binW_ok hk
      exact ⟨v, s.h, by simp only [opP, opBin, e1, e2, e3, keep], hk⟩
  · obtain ⟨x, e1, hk⟩ := getO_iff.1 hk
    obtain ⟨y, e2, hk⟩ := getO_iff.1 hk
    exact mkSliceW_ok e1 e2 hk
  · obtain ⟨x, e1, hk⟩ := getO_iff.1 hk
    obtain ⟨lo, e2, hk⟩ := getO_iff.1 hk
    obtain ⟨hi, e3, hk⟩ := getO_iff.1 hk
    obtain ⟨mx, e4, hk⟩ := getO_iff.1 hk
    obtain ⟨v, e5, hk⟩ := sliceW_ok hk
    exact ⟨v, s.h, by simp only [opP, opSlice, e1, e2, e3, e4, e5, keep], hk⟩
  · obtain ⟨x, e1, hk⟩ := getO_iff.1 hk
    obtain ⟨y, e2, hk⟩ := getO_iff.1 hk
    obtain ⟨v, e3, hk⟩ := addrIndexW_ok he hk
    exact ⟨v, s.h, by simp only [opP, opIndexAddr, e1, e2, e3, keep], hk⟩
  · obtain ⟨x, e1, hk⟩ := getO_iff.1 hk
    obtain ⟨y, e2, hk⟩ := getO_iff.1 hk
    obtain ⟨v, e3, hk⟩ := indexW_ok hk
    exact ⟨v, s.h, by simp only [opP, opIndex, e1, e2, e3, keep], hk⟩
  · obtain ⟨⟨v, h'⟩, e, hk⟩ := getO_iff.1 hk
    exact ⟨v, h', e, hk⟩
/-! #### calls -/
abbrev RecW := Tk → (Rs → Prop) → Prop
def SatW (cx : Cx) (rec : RecW) : Prop := ∀ t Q, rec t Q → ∃ r, Evs cx t r ∧ Q r
def onValW (K : V → Hp → Prop) : Rs → Prop
  | .val v h => K v h
  | _ => False
def pcallW (en : En) (rec : RecW) (f : Nat) (args : List V) (K : V → Prop) : Prop :=
  match en.pc f args with
  | some T => T K
  | none => rec (.pcall f args) (onValW fun v _ => K v)
theorem pcallW_ok {rec : RecW} (H : SatW cx rec) (he : EnOk cx en) {f : Nat} {args : List V} {K : V → Prop} (h : pcallW en rec f args K) : ∃ v h', Evs cx (.pcall f args) (.val v h') ∧ K v := by
  unfold pcallW at h
  split at h
  · rename_i T hT
    obtain ⟨v, e, hk⟩ := he.pc _ _ _ hT _ h
    exact ⟨v, .empty, e, hk⟩
  · obtain ⟨r, e, hr⟩ := H _ _ h
    unfold onValW at hr
    split at hr
    · exact ⟨_, _, e, hr⟩
    · exact hr.elim
def callFW (cx : Cx) (en : En) (rec : RecW) (f : Nat) (args : List V) (h : Hp) (K : V → Hp → Prop) : Prop :=
  match cx.prim f with
  | some p => getO (p args) fun v => K v h
  | none => cond (cx.inl f) (rec (.call f args h) (onValW K)) (cond (V.pures args) (pcallW en rec f args fun v => K v h)
      (match cond (V.frzs args) (mapO (fz true h fzDepth) args) none with
      | some args' => pcallW en rec f args' fun v => cond v.bor False (K v h)
      | none => rec (.call f args h) (onValW K)))
theorem callFW_ok {rec : RecW} (H : SatW cx rec) (he : EnOk cx en) {f : Nat} {args : List V} {h : Hp} {K : V → Hp → Prop} (hk : callFW cx en rec f args h K) :
    ∃ v h', K v h' ∧ ∀ k, Ld cx (callF cx f args h k) (k v h') := by
  have inl : rec (.call f args h) (onValW K) → ∃ v h', K v h' ∧ ∀ k, Ld cx (M.call (.call f args h) (onVal k)) (k v h') := fun hr => by
    obtain ⟨r, e, hr⟩ := H _ _ hr
    unfold onValW at hr
    split at hr
    · exact ⟨_, _, hr, fun k => Ld.call e⟩
    · exact hr.elim
  unfold callFW at hk
  unfold callF
  split at hk
  · rename_i p hp
    obtain ⟨v, e, hk⟩ := getO_iff.1 hk
    exact ⟨v, h, hk, fun k => Ld.of_eq (by rw [hp]; simp only [e])⟩
  · rename_i hp
    simp only [hp]
    cases hi : cx.inl f with
    | true => rw [hi] at hk; simpa using inl hk
    | false =>
      rw [hi, cond_false] at hk
      simp only [Bool.false_eq_true, if_false]
      cases hpu : V.pures args with
      | true =>
        rw [hpu, cond_true] at hk
        obtain ⟨v, h', e, hk⟩ := pcallW_ok H he hk
        exact ⟨v, h, hk, fun k => by simp only [if_true]; exact Ld.call e⟩
      | false =>
        rw [hpu, cond_false] at hk
        simp only [Bool.false_eq_true, if_false]
        have hcond : (cond (V.frzs args) (mapO (fz true h fzDepth) args) none) = (if V.frzs args then mapO (fz true h fzDepth) args else none) := by cases V.frzs args <;> rfl
        rw [hcond] at hk
        cases ha : (if V.frzs args then mapO (fz true h fzDepth) args else none) with
        | some args' =>
          rw [ha] at hk
          obtain ⟨v, h', e, hk⟩ := pcallW_ok H he hk
          cases hb : v.bor with
          | true => rw [hb] at hk; exact hk.elim
          | false =>
            rw [hb] at hk
            exact ⟨v, h, hk, fun k => (Ld.call e).trans (Ld.of_eq (by simp only [onLent, hb, Bool.false_eq_true, if_false]))⟩
        | none =>
          rw [ha] at hk
          exact inl hk
def onRoundW (b : Nat) (K : V → Hp → Prop) : Rs → Prop
  | .out e s => match s.h.get b with
    | some (.loop l) => K (.bool (left e).2.isNone) (s.h.put b (.loop { l with st := (left e).1, pend := (left e).2 }))
    | _ => False
  | _ => False
def onAssignW (rec : RecW) (b : Nat) (body : Code) (K : V → Hp → Prop) : Rs → Prop
  | .out .normal s => match s.h.get b with
    | some (.loop l) => match l.st with
      | .ready => rec (.code body ⟨s.tm, s.h.put b (.loop { l with st := .busy })⟩) (onRoundW b K)
      | _ => False
    | _ => False
  | _ => False
theorem onRoundW_ok {b : Nat} {K : V → Hp → Prop} {r : Rs} (h : onRoundW b K r) : ∃ v h', K v h' ∧ ∀ k, Ld cx (onRound b k r) (k v h') := by
  unfold onRoundW at h
  split at h
  · split at h
    · rename_i l hl
      exact ⟨_, _, h, fun k => Ld.of_eq (by simp only [onRound, hl])⟩
    · exact h.elim
  · exact h.elim
theorem onAssignW_ok {rec : RecW} (H : SatW cx rec) {b : Nat} {body : Code} {K : V → Hp → Prop} {r : Rs} (h : onAssignW rec b body K r) : ∃ v h', K v h' ∧ ∀ k, Ld cx (onAssign b body k r) (k v h') := by
  unfold onAssignW at h
  split at h
  · split at h
    · rename_i l hl
      split at h
      · rename_i hst
        obtain ⟨r1, e, hr⟩ := H _ _ h
        obtain ⟨v, h', hk, hrun⟩ := onRoundW_ok (cx := cx) hr
        refine ⟨v, h', hk, fun k => ?_⟩
        simp only [onAssign, hl, hst]
        exact (Ld.call e).trans (hrun k)
      · exact h.elim
    · exact h.elim
  · exact h.elim
def callVW (cx : Cx) (en : En) (rec : RecW) (g : V) (args : List V) (h : Hp) (K : V → Hp → Prop) : Prop :=
  match g with
  | .fn (.func f) first cap => callFW cx en rec f (first ++ args ++ cap) h K
  | .yld b => match h.get b with
    | some (.loop l) => cond (args.length.beq l.params.length) (rec (.code l.assign ⟨setParams l.params args l.tmps, h⟩) (onAssignW rec b l.body K)) False
    | _ => False
  | _ => False
theorem callVW_ok {rec : RecW} (H : SatW cx rec) (he : EnOk cx en) {g : V} {args : List V} {h : Hp} {K : V → Hp → Prop} (hk : callVW cx en rec g args h K) :
    ∃ v h', K v h' ∧ ∀ k, Ld cx (callV cx g args h k) (k v h') := by
  unfold callVW at hk
  split at hk
  · exact callFW_ok H he hk
  · rename_i b
    split at hk
    · rename_i l hl
      cases hb : args.length.beq l.params.length with
      | false => rw [hb] at hk; exact hk.elim
      | true =>
        rw [hb, cond_true] at hk
        obtain ⟨r1, e, hr⟩ := H _ _ hk
        obtain ⟨v, h', hk, hrun⟩ := onAssignW_ok H hr
        refine ⟨v, h', hk, fun k => ?_⟩
        simp only [callV, hl]
        rw [if_pos (Nat.eq_of_beq_eq_true hb)]
        exact (Ld.call e).trans (hrun k)
    · exact hk.elim
  · exact hk.elim
def evCallW (cx : Cx) (en : En) (rec : RecW) (s : St) (c : Call) (K : V → Hp → Prop) : Prop :=
  getO (evs s.tm c.args.toList) fun args => match c.callee with
    | .builtin b => builtinW cx s.h b c.argTypes.toList args K
    | .value f => getO (ev s.tm f) fun g => callVW cx en rec g args s.h K
    | .invoke r m => match ev s.tm r with
      | some (.ifc t v) => getO (cx.meth t m) fun f => callFW cx en rec f (v :: args) s.h K
      | _ => False
theorem evCallW_ok {rec : RecW} (H : SatW cx rec) (he : EnOk cx en) {s : St} {c : Call} {K : V → Hp → Prop} (hk : evCallW cx en rec s c K) :
    ∃ v h', K v h' ∧ ∀ k, Ld cx (evCall cx s c k) (k v h') := by
  unfold evCallW at hk
  obtain ⟨args, ha, hk⟩ := getO_iff.1 hk
  unfold evCall
  simp only [ha]
  split at hk
  · rename_i b hb
    obtain ⟨v, h', e, hk⟩ := builtinW_ok hk
    exact ⟨v, h', hk, fun k => Ld.of_eq (by rw [hb]; simp only [e])⟩
  · rename_i f hf
    obtain ⟨g, hg, hk⟩ := getO_iff.1 hk
    obtain ⟨v, h', hk, hrun⟩ := callVW_ok H he hk
    exact ⟨v, h', hk, fun k => by rw [hf]; simp only [hg]; exact hrun k⟩
  · rename_i r m hr
    split at hk
    · rename_i t v hv
      obtain ⟨f, hf, hk⟩ := getO_iff.1 hk
      obtain ⟨v, h', hk, hrun⟩ := callFW_ok H he hk
      exact ⟨v, h', hk, fun k => by rw [hr]; simp only [hv, hf]; exact hrun k⟩
    · exact hk.elim
def evOpW (cx : Cx) (en : En) (rec : RecW) (s : St) (o : Oper) (K : V → Hp → Prop) : Prop :=
  match o.op with
  | .call c => evCallW cx en rec s c K
  | op => opW cx en s op K
theorem evOpW_ok {rec : RecW} (H : SatW cx rec) (he : EnOk cx en) {s : St} {o : Oper} {K : V → Hp → Prop} (hk : evOpW cx en rec s o K) :
    ∃ v h', K v h' ∧ ∀ k, Ld cx (evOp cx s o k) (k v h') := by
  unfold evOpW at hk
  unfold evOp
  split at hk
  · rename_i c hc
    simp only [hc]
    exact evCallW_ok H he hk
  · rename_i hne
    obtain ⟨v, h', e, hk⟩ := opW_ok he hk
    refine ⟨v, h', hk, fun k => ?_⟩
    split
    · rename_i c hc; exact absurd hc (hne c)
    · simp only [e]; exact Ld.refl _
/-- the same state, written out (so that the kernel need not work it out twice) -/
def forceL : List V → (List V → Prop) → Prop
  | [], k => k []
  | v :: l, k => forceL l fun l' => k (v :: l')
theorem forceL_eq : ∀ (l : List V) (k : List V → Prop), forceL l k = k l
  | [], _ => rfl
  | v :: l, k => by rw [forceL, forceL_eq l]
def forceT : Tr Ob → (Tr Ob → Prop) → Prop
  | .nil, k => k .nil
  | .node l x r, k => forceT l fun l' => forceT r fun r' => match x with
    | none => k (.node l' none r')
    | some o => k (.node l' (some o) r')
theorem forceT_eq : ∀ (t : Tr Ob) (k : Tr Ob → Prop), forceT t k = k t
  | .nil, _ => rfl
  | .node l x r, k => by rw [forceT, forceT_eq l, forceT_eq r]; cases x <;> rfl
def forceS (s : St) (k : St → Prop) : Prop := forceL s.tm fun tm => forceT s.h.tr fun tr => k ⟨tm, ⟨tr, s.h.next, s.h.low⟩⟩
theorem forceS_eq (s : St) (k : St → Prop) : forceS s k = k s := by unfold forceS; rw [forceL_eq, forceT_eq]
def evOpsW (cx : Cx) (en : En) (rec : RecW) (ops : List Oper) : List Oper → St → (St → Prop) → Prop
  | [], s, K => forceS s K
  | o :: rest, s, K => guardW ops s.tm o (fun tm => evOpW cx en rec ⟨tm, s.h⟩ o fun v h => evOpsW cx en rec ops rest (St.put ⟨tm, h⟩ o.dst v) K) (fun tm => evOpsW cx en rec ops rest (St.put ⟨tm, s.h⟩ o.dst .und) K)
theorem evOpsW_ok {rec : RecW} (H : SatW cx rec) (he : EnOk cx en) {ops : List Oper} {K : St → Prop} : ∀ {l : List Oper} {s : St}, evOpsW cx en rec ops l s K → ∃ s', K s' ∧ ∀ k, Ld cx (evOps cx ops l s k) (k s')
  | [], s, hk => ⟨s, by simpa only [evOpsW, forceS_eq] using hk, fun k => Ld.refl _⟩
  | o :: rest, s, hk => by
    simp only [evOpsW] at hk
    rcases guardW_ok hk with ⟨hw, hk⟩ | ⟨hw, hk⟩
    · obtain ⟨v, h', hk, hrun⟩ := evOpW_ok H he hk
      obtain ⟨s', hk, hrun2⟩ := evOpsW_ok H he hk
      exact ⟨s', hk, fun k => by simp only [evOps, hw, if_true]; exact (hrun _).trans (hrun2 k)⟩
    · obtain ⟨s', hk, hrun2⟩ := evOpsW_ok H he hk
      exact ⟨s', hk, fun k => by simp only [evOps, hw, Bool.false_eq_true, if_false]; exact hrun2 k⟩
def evDrawW (cx : Cx) (en : En) (rec : RecW) (ops : List Oper) : List Oper → List Nat → Nat → Dc → St → (St → Prop) → Prop
  | [], _, _, _, s, K => forceS s K
  | o :: rest, a :: as1, i, d, s, K =>
    guardW ops s.tm o (fun tm => evOpW cx en rec ⟨tm, ⟨s.h.tr, s.h.next, s.h.next⟩⟩ o fun v h =>
      getO (stepD ⟨tm, s.h⟩ o.op i a d h) fun d' => evDrawW cx en rec ops rest as1 (i + 1) d' (St.put ⟨tm, ⟨h.tr, h.next, min s.h.low h.low⟩⟩ o.dst v) K)
    (fun tm => evDrawW cx en rec ops rest as1 (i + 1) d (St.put ⟨tm, s.h⟩ o.dst .und) K)
  | _ :: _, [], _, _, _, _ => False
theorem evDrawW_ok {rec : RecW} (H : SatW cx rec) (he : EnOk cx en) {ops : List Oper} {K : St → Prop} : ∀ {l : List Oper} {as1 : List Nat} {i : Nat} {d : Dc} {s : St}, evDrawW cx en rec ops l as1 i d s K → ∃ s', K s' ∧ ∀ k, Ld cx (evDraw cx ops l as1 i d s k) (k s')
  | [], _, _, _, s, hk => ⟨s, by simpa only [evDrawW, forceS_eq] using hk, fun k => Ld.refl _⟩
  | o :: rest, a :: as1, i, d, s, hk => by
    simp only [evDrawW] at hk
    rcases guardW_ok hk with ⟨hw, hk⟩ | ⟨hw, hk⟩
    · obtain ⟨v, h', hk, hrun⟩ := evOpW_ok H he hk
      obtain ⟨d', hd, hk⟩ := getO_iff.1 hk
      obtain ⟨s', hk, hrun2⟩ := evDrawW_ok H he hk
      refine ⟨s', hk, fun k => ?_⟩
      simp only [evDraw, hw, if_true]
      refine (hrun _).trans ?_
      simp only [hd]
      exact hrun2 k
    · obtain ⟨s', hk, hrun2⟩ := evDrawW_ok H he hk
      exact ⟨s', hk, fun k => by simp only [evDraw, hw, Bool.false_eq_true, if_false]; exact hrun2 k⟩
  | _ :: _, [], _, _, _, hk => hk.elim
def evDrawsW (cx : Cx) (en : En) (rec : RecW) (ops : List Oper) (s : St) (K : St → Prop) : Prop :=
  match masks .nil 0 ops with
  | ms => cond (drawP ops ops ms 0 .nil .nil) (evDrawW cx en rec ops ops ms 0 ⟨0, 0, 0, [], []⟩ s K) False
theorem evDrawsW_ok {rec : RecW} (H : SatW cx rec) (he : EnOk cx en) {ops : List Oper} {K : St → Prop} {s : St} (hk : evDrawsW cx en rec ops s K) : ∃ s', K s' ∧ ∀ k, Ld cx (evDraws cx ops s k) (k s') := by
  unfold evDrawsW at hk
  unfold evDraws
  simp only at hk ⊢
  cases hd : drawP ops ops (masks .nil 0 ops) 0 .nil .nil with
  | false => rw [hd] at hk; exact hk.elim
  | true =>
    rw [hd, cond_true] at hk
    obtain ⟨s', hk, hrun⟩ := evDrawW_ok H he hk
    exact ⟨s', hk, fun k => by simp only [if_true]; exact hrun k⟩
/-! #### code -/
def onSeqW (rec : RecW) (b : Code) (Q : Rs → Prop) : Rs → Prop
  | .out .normal s => rec (.code b s) Q
  | r => Q r
def onBlockW (id : Nat) (Q : Rs → Prop) : Rs → Prop
  | .out (.exit j) s => Q (.out (cond (j.beq id) .normal (.exit j)) s)
  | r => Q r
def onRangeW (b : Nat) (tm : List V) (Q : Rs → Prop) (h : Hp) : Prop :=
  match h.get b with
  | some (.loop l) => match l.st with
    | .busy => False
    | _ => match l.pend with
      | none => Q (.out .normal ⟨tm, h.put b (.loop { l with st := .exhausted })⟩)
      | some .ret => Q (.out .ret ⟨tm, h.put b (.loop { l with st := .exhausted })⟩)
      | some (.exit id) => Q (.out (.exit id) ⟨tm, h.put b (.loop { l with st := .exhausted })⟩)
      | _ => False
  | _ => False
def onBodyW (cx : Cx) (fn : Func) (K : V → Hp → Prop) : Rs → Prop
  | .out (.exit _) _ => False
  | .out _ s => getO (resV cx s fn.results.toList) fun vs => K (tupV vs) s.h
  | _ => False
/-- what a condition was -/
def setC (s : St) (c : Operand) (b : Bool) : St := match c with | .tmp d => ⟨s.tm.set d (.bool b), s.h⟩ | _ => s
theorem setC_same {s : St} {c : Operand} {b : Bool} (h : ev s.tm c = some (.bool b)) : setC s c b = s := by
  cases c with
  | tmp d => simp only [setC]; rw [set_same h]
  | _ => rfl
/-- the rest of a list of statements may be told by its first one's region -/
def cutW (en : En) (c : Code) : Option (Code → St → (Rs → Prop) → Prop) :=
  match c with
  | .seq (.region id _ _) _ => en.lp (id + 2000)
  | .seq (.seq (.region id _ _) _) _ => en.lp (id + 1000)
  | _ => none
theorem cutW_ok (he : EnOk cx en) {c : Code} {T : Code → St → (Rs → Prop) → Prop} (h : cutW en c = some T) {s : St} {Q : Rs → Prop} (hT : T c s Q) : ∃ r, Evs cx (.code c s) r ∧ Q r := by
  unfold cutW at h
  split at h
  · exact he.lp _ _ h _ _ _ hT
  · exact he.lp _ _ h _ _ _ hT
  · cases h
/-- what is to be shown of code, if its rest is not told of -/
def codeW (cx : Cx) (en : En) (rec : RecW) (c : Code) (s : St) (Q : Rs → Prop) : Prop :=
  match c with
  | .skip => Q (.out .normal s)
  | .ret => Q (.out .ret s)
  | .label _ => Q (.out .normal s)
  | .scope c => rec (.code c s) Q
  | .exit id => Q (.out (.exit id) s)
  | .seq a b => rec (.code a s) (onSeqW rec b Q)
  | .cond c a b => match ev s.tm c with
    | some (.bool t) => brW t (rec (.code a (setC s c true)) Q) (rec (.code b (setC s c false)) Q)
    | _ => False
  | .block id c => match en.lp id with
    | some T => T c s (onBlockW id Q)
    | none => rec (.code c s) (onBlockW id Q)
  | .loop c => rec (.code c s) (onSeqW rec (.loop c) Q)
  | .region _ ops false => match specR ops.toList with
    | true => match runN cx ops.toList (ops.toList.length + 1) none ops.toList s.tm s.h with
      | some tm => forceS ⟨tm, s.h⟩ fun s' => Q (.out .normal s')
      | none => evOpsW cx en rec ops.toList ops.toList s fun s' => Q (.out .normal s')
    | false => evOpsW cx en rec ops.toList ops.toList s fun s' => Q (.out .normal s')
  | .region _ ops true => evDrawsW cx en rec ops.toList s fun s' => Q (.out .normal s')
  | .rangeFunc g ps assign body => match ev s.tm g with
    | some (.fn (.func f) first cap) => rec (.call f (first ++ [.yld s.h.next] ++ cap) (s.h.add (.loop ⟨.ready, none, s.tm, ps.toList, assign, body⟩))) (onValW fun _ h => onRangeW s.h.next s.tm Q h)
    | _ => False
  | _ => False
def stepW (cx : Cx) (en : En) (rec : RecW) (t : Tk) (Q : Rs → Prop) : Prop :=
  match t with
  | .code c s => match cutW en c with
    | some T => T c s Q
    | none => codeW cx en rec c s Q
  | .call f args h => match cx.fn f with
    | some fn => match fn.body with
      | some c => rec (.code c ⟨frameOf fn args, h⟩) (onBodyW cx fn fun v h => Q (.val v h))
      | none => False
    | none => False
  | .pcall f args => match specOf cx f args with
    | some v => Q (.val v .empty)
    | none => match cx.fn f with
      | some fn => match fn.body with
        | some c => rec (.code c ⟨frameOf fn args, .empty⟩) (onBodyW cx fn fun v h => getO (fz false h fzDepth v) fun v => Q (.val v .empty))
        | none => False
      | none => False
def vc (cx : Cx) (en : En) : Nat → Tk → (Rs → Prop) → Prop
  | 0, _, _ => False
  | n + 1, t, Q => stepW cx en (vc cx en n) t Q
theorem onSeqW_ok {rec : RecW} (H : SatW cx rec) {b : Code} {Q : Rs → Prop} {r : Rs} (h : onSeqW rec b Q r) : ∃ r', Q r' ∧ (onSeq b r).runR (Evs cx) r' := by
  unfold onSeqW at h
  split at h
  · obtain ⟨r', e, hq⟩ := H _ _ h
    exact ⟨r', hq, r', e, rfl⟩
  · rename_i hne
    refine ⟨r, h, ?_⟩
    unfold onSeq
    split
    · rename_i s; exact absurd rfl (hne s)
    · rfl
theorem onBodyW_ok {fn : Func} {K : V → Hp → Prop} {r : Rs} (h : onBodyW cx fn K r) : ∃ v h', K v h' ∧ ∀ k, Ld cx (onBody cx fn k r) (k v h') := by
  unfold onBodyW at h
  split at h
  · exact h.elim
  · rename_i e s hne
    obtain ⟨vs, e1, hk⟩ := getO_iff.1 h
    refine ⟨_, _, hk, fun k => ?_⟩
    unfold onBody
    split
    · rename_i heq; cases heq; exact absurd rfl (hne _)
    · rename_i heq; cases heq; simp only [e1]; exact Ld.refl _
    · rename_i heq; exact absurd rfl (heq _ _)
  · exact h.elim
theorem codeW_ok {rec : RecW} (H : SatW cx rec) (he : EnOk cx en) {c : Code} {s : St} {Q : Rs → Prop} (h : codeW cx en rec c s Q) : ∃ r, Q r ∧ (stepCode cx c s).runR (Evs cx) r := by
  unfold codeW at h
  have one : ∀ {c : Code} {s : St}, rec (.code c s) Q → ∃ r, Q r ∧ (M.call (.code c s) M.ret).runR (Evs cx) r := fun {c s} h => by
    obtain ⟨r, e, hq⟩ := H _ _ h
    exact ⟨r, hq, r, e, rfl⟩
  split at h
  · exact ⟨_, h, rfl⟩
  · exact ⟨_, h, rfl⟩
  · exact ⟨_, h, rfl⟩
  · exact one h
  · exact ⟨_, h, rfl⟩
  · obtain ⟨r, e, hq⟩ := H _ _ h
    obtain ⟨r', hq, hrun⟩ := onSeqW_ok H hq
    exact ⟨r', hq, r, e, hrun⟩
  · rename_i x a b
    split at h
    · rename_i t ht
      simp only [stepCode, ht]
      cases t with
      | true => simp only [brW, cond_true, setC_same ht] at h; simpa using one h
      | false => simp only [brW, cond_false, setC_same ht] at h; simpa using one h
    · exact h.elim
  · rename_i id c
    have h : ∃ r, Evs cx (.code c s) r ∧ onBlockW id Q r := by
      split at h
      · rename_i T hT; exact he.lp id T hT c s _ h
      · exact H _ _ h
    obtain ⟨r, e, hq⟩ := h
    unfold onBlockW at hq
    split at hq
    · rename_i j s1
      refine ⟨_, hq, ?_⟩
      refine ⟨_, e, ?_⟩
      simp only [onBlock]
      by_cases hj : j = id
      · rw [hj]; simp [Nat.beq_refl, M.runR]
      · rw [if_neg hj, beq_f hj]; rfl
    · rename_i hne
      refine ⟨_, hq, ?_⟩
      refine ⟨_, e, ?_⟩
      unfold onBlock
      split
      · rename_i j s1; exact absurd rfl (hne _ _)
      · rfl
  · obtain ⟨r, e, hq⟩ := H _ _ h
    obtain ⟨r', hq, hrun⟩ := onSeqW_ok H hq
    exact ⟨r', hq, r, e, hrun⟩
  · rename_i id ops
    have two : evOpsW cx en rec ops.toList ops.toList s (fun s' => Q (.out .normal s')) → ∃ r, Q r ∧ (stepCode cx (.region id ops false) s).runR (Evs cx) r := fun h => by
      obtain ⟨s', hq, hrun⟩ := evOpsW_ok H he h
      exact ⟨_, hq, hrun _ _ rfl⟩
    split at h
    · split at h
      · rename_i tm htm
        rw [forceS_eq] at h
        obtain ⟨_, _, hrun⟩ := runN_ok _ none _ _ _ _ htm trivial
        exact ⟨_, h, by simp only [stepCode]; rw [show s = ⟨s.tm, s.h⟩ from rfl, hrun]; rfl⟩
      · exact two h
    · exact two h
  · obtain ⟨s', hq, hrun⟩ := evDrawsW_ok H he h
    exact ⟨_, hq, hrun _ _ rfl⟩
  · rename_i g ps assign body
    split at h
    · rename_i f first cap hg
      obtain ⟨r, e, hq⟩ := H _ _ h
      unfold onValW at hq
      split at hq
      · rename_i v h1
        unfold onRangeW at hq
        split at hq
        case h_2 => exact hq.elim
        rename_i l hl
        have hrun : Ld cx (stepCode cx (.rangeFunc g ps assign body) s) (onRange s.h.next s.tm v h1) := by
          simp only [stepCode, hg]; exact Ld.call e
        suffices hs : ∃ r, Q r ∧ (onRange s.h.next s.tm v h1).runR (Evs cx) r by
          obtain ⟨r, h1, h2⟩ := hs; exact ⟨r, h1, hrun r h2⟩
        unfold onRange
        simp only [hl]
        split at hq
        · exact hq.elim
        · rename_i hnb
          cases hst : l.st with
          | busy => exact absurd hst hnb
          | _ =>
            simp only
            cases hp : l.pend with
            | none => rw [hp] at hq; exact ⟨_, hq, rfl⟩
            | some c =>
              rw [hp] at hq
              cases c with
              | ret => exact ⟨_, hq, rfl⟩
              | exit id => exact ⟨_, hq, rfl⟩
              | _ => exact hq.elim
      · exact hq.elim
    · exact h.elim
  · exact h.elim
theorem vc_ok (he : EnOk cx en) : ∀ (n : Nat), SatW cx (vc cx en n)
  | 0, _, _, h => h.elim
  | n + 1, t, Q, h => by
    have H := vc_ok he n
    have fin : (∃ r, Q r ∧ (step cx t).runR (Evs cx) r) → ∃ r, Evs cx t r ∧ Q r := fun ⟨r, hq, e⟩ => ⟨r, .of_step e, hq⟩
    simp only [vc] at h
    unfold stepW at h
    split at h
    · split at h
      · rename_i T hT; exact cutW_ok he hT h
      · exact fin (codeW_ok H he h)
    · refine fin ?_
      split at h
      case h_2 => exact h.elim
      rename_i fn hf
      split at h
      case h_2 => exact h.elim
      rename_i c hb
      obtain ⟨r, e, hq⟩ := H _ _ h
      obtain ⟨v, h', hk, hrun⟩ := onBodyW_ok (cx := cx) hq
      exact ⟨_, hk, by simp only [step, hf, hb]; exact ⟨r, e, hrun _ _ rfl⟩⟩
    · refine fin ?_
      split at h
      · rename_i v hs
        exact ⟨_, h, by simp only [step, hs]; rfl⟩
      rename_i hs
      split at h
      case h_2 => exact h.elim
      rename_i fn hf
      split at h
      case h_2 => exact h.elim
      rename_i c hb
      obtain ⟨r, e, hq⟩ := H _ _ h
      obtain ⟨v, h', hk, hrun⟩ := onBodyW_ok (cx := cx) hq
      obtain ⟨v', e2, hk⟩ := getO_iff.1 hk
      exact ⟨_, hk, by simp only [step, hs, hf, hb]; exact ⟨r, e, hrun _ _ (by simp only [shut, e2]; rfl)⟩⟩
end Go.Ev
end

section
set_option linter.unusedVariables false
set_option linter.unusedSimpArgs false
namespace Go.Ev
variable {P : Program} {cx : Cx} {en : En}
theorem brI {b : Bool} {p q : Prop} (h1 : b = true → p) (h2 : b = false → q) : brW b p q := brW_iff.2 ⟨h1, h2⟩
theorem brN {b : Bool} {p q : Prop} (h1 : b = false → p) (h2 : b = true → q) : brW (!b) p q := by cases b <;> simp_all [brW]
theorem needI {b : Bool} {p : Prop} (h1 : b = true) (h2 : p) : need b p := need_iff.2 ⟨h1, h2⟩
theorem getI {α : Type} {o : Option α} {k : α → Prop} (a : α) (h1 : o = some a) (h2 : k a) : getO o k := getO_iff.2 ⟨a, h1, h2⟩
theorem exI {α : Type} {p q : α → Prop} (w : α) (h1 : p w) (h2 : q w) : ∃ w, p w ∧ q w := ⟨w, h1, h2⟩
theorem vcP (he : EnOk cx en) (n : Nat) {f : Nat} {args : List V} {v : V} (h : vc cx en n (.pcall f args) (fun r => r = .val v .empty)) : Pev cx f args v := by
  obtain ⟨r, h1, h2⟩ := vc_ok he n _ _ h
  subst h2
  exact h1
/-- what is told by a table of functions' results -/
abbrev Tq := List V → Option ((V → Prop) → Prop)
def enOf (el : Nat → Option ((List V → Prop) → Prop)) (tab : Tr Tq) : En :=
  { el := el, pc := fun f args => match tab.get f with
    | some q => q args
    | none => none }
def TqOk (cx : Cx) (f : Nat) (q : Tq) : Prop := ∀ args T, q args = some T → ∀ K, T K → ∃ v, Pev cx f args v ∧ K v
def TabOk (cx : Cx) (tab : Tr Tq) : Prop := ∀ f q, tab.get f = some q → TqOk cx f q
theorem enOf_ok {el : Nat → Option ((List V → Prop) → Prop)} {tab : Tr Tq} (h1 : ∀ t T, el t = some T → ∀ K, T K → ∃ cs, K cs) (h2 : TabOk cx tab) : EnOk cx (enOf el tab) where
  el := h1
  pc := fun f args T hT K hK => by
    simp only [enOf] at hT
    split at hT
    · rename_i q hq
      exact h2 f q hq args T hT K hK
    · cases hT
  lp := fun id T h => by cases h
theorem TabOk.nil : TabOk cx .nil := fun f q h => by rw [Tr.get_nil] at h; cases h
/-- one function more -/
theorem TabOk.set {tab : Tr Tq} (h : TabOk cx tab) {g : Nat} {q : Tq} (hq : TqOk cx g q) : TabOk cx (tab.set g q) := fun f p hf => by
  rw [Tr.get_set] at hf
  split at hf
  · rename_i e; cases hf; subst e; exact hq
  · exact h f p hf
theorem TabOk.all {l : List (Nat × Tq)} (h : ∀ x ∈ l, TqOk cx x.1 x.2) : TabOk cx (l.foldl (fun t x => t.set x.1 x.2) .nil) := by
  have key : ∀ (l : List (Nat × Tq)) (t : Tr Tq), TabOk cx t → (∀ x ∈ l, TqOk cx x.1 x.2) → TabOk cx (l.foldl (fun t x => t.set x.1 x.2) t) := by
    intro l
    induction l with
    | nil => intro t ht _; exact ht
    | cons x xs ih => intro t ht hx; exact ih _ (ht.set (hx x (by simp))) fun y hy => hx y (by simp [hy])
  exact key l .nil .nil h
theorem CxOk.tab (hc : CxOk P cx) {tab : Tr (List V → Option V)} (h : ∀ f p args v, tab.get f = some p → p args = some v → Pev cx f args v) : CxOk P { cx with spec := fun f => tab.get f } :=
  hc.withSpec fun g p args v hg hp => (h g p args v hg hp).sound hc
theorem PcallS.to {cx' : Cx} {f : Nat} {args : List V} {v : V} (h : PcallS P cx f args v) (e : cx.fn = cx'.fn) : PcallS P cx' f args v := by
  unfold PcallS at *
  rw [← e]; exact h
/-- one call more that is known -/
theorem CxOk.know' {cx' : Cx} (hc : CxOk P cx) {f : Nat} {args : List V} {v : V} (h : PcallS P cx' f args v) (e : cx'.fn = cx.fn := by rfl) : CxOk P (cx.know f args v) := by
  refine hc.withSpec fun g p l u h1 h2 => ?_
  cases hb : g.beq f with
  | false =>
    rw [hb, cond_false] at h1
    exact hc.spec g p l u h1 h2
  | true =>
    rw [hb, cond_true] at h1
    cases h1
    have hg := Nat.eq_of_beq_eq_true hb
    simp only [] at h2
    cases hs : V.sames l args with
    | true =>
      rw [hs, cond_true] at h2
      cases h2
      rw [V.sames_eq l hs, hg]
      exact h.to e
    | false =>
      rw [hs, cond_false] at h2
      unfold specOf at h2
      split at h2
      · rename_i p0 hp0
        exact hc.spec g p0 l u hp0 h2
      · cases h2
end Go.Ev
end

section
set_option linter.unusedVariables false
set_option linter.unusedSimpArgs false
namespace Go.Ev
variable {P : Program} {cx : Cx}
/-! ### What is known beforehand, taken out again -/
theorem stepCode_spec (cx : Cx) (s : Nat → Option (List V → Option V)) : stepCode { cx with spec := s } = stepCode cx := by kernel_rfl
theorem onBody_spec (cx : Cx) (s : Nat → Option (List V → Option V)) : onBody { cx with spec := s } = onBody cx := by kernel_rfl
/-- 'cx' is 'c0' with true results known beforehand -/
structure Kn (c0 cx : Cx) : Prop where
  form : ∃ s, cx = { c0 with spec := s }
  known : ∀ f args v, specOf cx f args = some v → Pev c0 f args v
theorem Kn.pev {c0 cx : Cx} (h0 : ∀ f args, specOf c0 f args = none) (hk : Kn c0 cx) {n f : Nat} {args : List V} {v : V} (h : evF cx n (.pcall f args) = some (.val v .empty)) : Pev c0 f args v := fun P hc => by
  obtain ⟨s, hs⟩ := hk.form
  have e : cx.fn = c0.fn := by rw [hs]
  have hc' : CxOk P cx := by
    rw [hs]
    refine hc.withSpec fun g p l u hg hp => ?_
    have : specOf cx g l = some u := by rw [hs]; simp only [specOf, hg, hp]
    exact ((hk.known g l u this).sound hc)
  have := evF_sound hc' h
  have : PcallS P c0 f args v := PcallS.to (cx := cx) this e
  exact ⟨0, fun _ _ => this⟩
theorem Kn.know {c0 cx : Cx} (hk : Kn c0 cx) {f : Nat} {args : List V} {v : V} (h : Pev c0 f args v) : Kn c0 (cx.know f args v) := by
  obtain ⟨⟨s, hs⟩, hn⟩ := hk
  refine ⟨⟨_, by rw [hs]; rfl⟩, fun g l u hu => ?_⟩
  cases hb : g.beq f with
  | false =>
    have : specOf (cx.know f args v) g l = specOf cx g l := by simp only [specOf, Cx.know, hb, cond_false]
    rw [this] at hu
    exact hn g l u hu
  | true =>
    have e : specOf (cx.know f args v) g l = cond (V.sames l args) (some v) (specOf cx g l) := by simp only [specOf, Cx.know, hb, cond_true]
    rw [e] at hu
    cases hsm : V.sames l args with
    | true =>
      rw [hsm, cond_true] at hu
      cases hu
      rw [V.sames_eq l hsm, Nat.eq_of_beq_eq_true hb]
      exact h
    | false =>
      rw [hsm, cond_false] at hu
      exact hn g l u hu
theorem Kn.tab {c0 : Cx} {tab : Tr (List V → Option V)} (h : ∀ f p args v, tab.get f = some p → p args = some v → Pev c0 f args v) : Kn c0 { c0 with spec := fun f => tab.get f } :=
  ⟨⟨_, rfl⟩, fun f args v hv => by
    unfold specOf at hv
    simp only at hv
    split at hv
    · rename_i p hp; exact h f p args v hp hv
    · cases hv⟩
end Go.Ev
end

section
set_option linter.unusedVariables false
set_option linter.unusedSimpArgs false
namespace Go.Ev
/-! ### Arguments that can be read as data, as values of the evaluator -/
inductive Sh where
  | tb | ti (k : IntKind) | ts | tl (z : Nat) (e : Sh) | tst (fs : List Sh)
mutual
def Sh.sz : Sh → Nat
  | .tst fs => Sh.szs fs
  | _ => 1
def Sh.szs : List Sh → Nat
  | [] => 0
  | s :: r => s.sz + Sh.szs r
end
mutual
/-- values of such a shape, cell by cell -/
def Sh.has : Sh → List V → Prop
  | .tb, vs => ∃ b, vs = [.bool b]
  | .ti k, vs => ∃ n, vs = [.int k n] ∧ (Lit.int k n).wf = true
  | .ts, vs => ∃ s, vs = [.str s] ∧ s.size ≤ maxLen
  | .tl z e, vs => vs = [.snil] ∨ ∃ es, vs = [.imm false z false es] ∧ es.length ≤ maxLen ∧ ∀ r ∈ es, Sh.has e r
  | .tst fs, vs => Sh.hass fs vs
def Sh.hass : List Sh → List V → Prop
  | [], vs => vs = []
  | s :: r, vs => ∃ a b, vs = a ++ b ∧ Sh.has s a ∧ Sh.hass r b
end
mutual
/-- does a type have the shape? -/
def Sh.fits (P : Program) : Sh → TypeId → Bool
  | .tb, t => match P.underlying t with | some .bool => true | _ => false
  | .ti k, t => match P.underlying t with | some (.int k') => decide (k = k') | _ => false
  | .ts, t => match P.underlying t with | some .string => true | _ => false
  | .tl z e, t => match P.underlying t with | some (.slice te) => (P.cellsOf te).beq z && z.beq e.sz && !(z.beq 0) && Sh.fits P e te | _ => false
  | .tst fs, t => match P.underlying t with | some (.struct F) => Sh.fitss P fs F.toList 0 && (P.cellsOf t).beq (Sh.szs fs) | _ => false
def Sh.fitss (P : Program) : List Sh → List Field → Nat → Bool
  | [], [], _ => true
  | s :: r, f :: fs, off => f.offset.beq off && (P.cellsOf f.type).beq s.sz && Sh.fits P s f.type && Sh.fitss P r fs (off + s.sz)
  | _, _, _ => false
end
mutual
theorem Sh.has_len : ∀ {s : Sh} {vs : List V}, s.has vs → vs.length = s.sz
  | .tb, vs, h => by obtain ⟨b, rfl⟩ := h; rfl
  | .ti k, vs, h => by obtain ⟨b, rfl, _⟩ := h; rfl
  | .ts, vs, h => by obtain ⟨b, rfl, _⟩ := h; rfl
  | .tl z e, vs, h => by
    rcases h with rfl | ⟨es, rfl, _⟩ <;> rfl
  | .tst fs, vs, h => Sh.hass_len h
theorem Sh.hass_len : ∀ {l : List Sh} {vs : List V}, Sh.hass l vs → vs.length = Sh.szs l
  | [], vs, h => by simp only [Sh.hass] at h; rw [h]; rfl
  | s :: r, vs, h => by
    obtain ⟨a, b, rfl, h1, h2⟩ := h
    simp [Sh.szs, Sh.has_len h1, Sh.hass_len h2]
end
mutual
theorem Sh.has_ones : ∀ {s : Sh} {vs : List V}, s.has vs → ones vs
  | .tb, vs, h => by obtain ⟨b, rfl⟩ := h; intro v hv; simp at hv; subst hv; rfl
  | .ti k, vs, h => by obtain ⟨b, rfl, _⟩ := h; intro v hv; simp at hv; subst hv; rfl
  | .ts, vs, h => by obtain ⟨b, rfl, _⟩ := h; intro v hv; simp at hv; subst hv; rfl
  | .tl z e, vs, h => by
    rcases h with rfl | ⟨es, rfl, _⟩ <;> (intro v hv; simp at hv; subst hv; rfl)
  | .tst fs, vs, h => Sh.hass_ones h
theorem Sh.hass_ones : ∀ {l : List Sh} {vs : List V}, Sh.hass l vs → ones vs
  | [], vs, h => by simp only [Sh.hass] at h; rw [h]; intro v hv; cases hv
  | s :: r, vs, h => by
    obtain ⟨a, b, rfl, h1, h2⟩ := h
    intro v hv
    rcases List.mem_append.1 hv with hv | hv
    · exact Sh.has_ones h1 v hv
    · exact Sh.hass_ones h2 v hv
end
theorem cell_add {w : World} {a : Addr} {n : Nat} (hs : a.spot = none) : w.cell? (a.add n) = match w.heap[a.block]? with | some (.cells c _ _) => c[a.off + n]? | _ => none := by
  unfold Addr.add
  by_cases h : n = 0
  · subst h; simp only [if_true, World.cell?, hs, Option.isSome_none, Bool.false_eq_true, if_false, Nat.add_zero]; rfl
  · rw [if_neg h]; simp only [World.cell?, Option.isSome_none, Bool.false_eq_true, if_false]; rfl
def allG (w : World) : GM := fun _ k => k < w.heap.size
theorem beqN {a b : Nat} (h : a.beq b = true) : a = b := Nat.eq_of_beq_eq_true h
section
variable {H : Type} {enc : TypeId × Value → H} {P : Program} {w : World} {base : Nat} {spare : Nat → Bool} {held : Bool}
theorem VRs_one {v : V} {x : Value} {f : FM} {G : GM} (h : VR w f G v x) : VRs w f G [v] (fun i => [x][i]?) := by
  simp only [VRs]
  exact ⟨⟨x, rfl, h⟩, trivial⟩
theorem skipG {f : FM} {G : GM} {a : List V} {cs : List Value} {n : Nat} (h : VRs w f G a (fun i => ((cs.drop n).take a.length)[i]?)) : VRs w f G a (fun i => cs[n + i]?) :=
  VRs_iff.2 fun i v hi => by
    obtain ⟨u, hu, hv⟩ := VRs_iff.1 h i v hi
    refine ⟨u, ?_, hv⟩
    have hlt : i < a.length := (List.getElem?_eq_some_iff.1 hi).1
    rw [List.getElem?_take_of_lt hlt, List.getElem?_drop] at hu
    exact hu
mutual
theorem Sh.open_ok : ∀ (s : Sh) {t : TypeId} {fuel : Nat} {cs : List Value} {x : DataW H × List MemPlace}, s.fits P t = true → DataW.trod enc P w base spare held fuel t cs = some x →
    ∃ vs, s.has vs ∧ VRs w noF (allG w) vs (fun i => cs[i]?)
  | .tb, t, fuel, cs, x, hf, h => by
    simp only [Sh.fits] at hf
    split at hf
    case h_2 => cases hf
    rename_i ht
    obtain ⟨b, rfl, _⟩ := DataW.trod_bool ht h
    exact ⟨[.bool b], ⟨b, rfl⟩, VRs_one (by simp only [VR])⟩
  | .ti k, t, fuel, cs, x, hf, h => by
    simp only [Sh.fits] at hf
    split at hf
    case h_2 => cases hf
    rename_i k' ht
    have hk : k = k' := by simpa using hf
    subst hk
    obtain ⟨n, rfl, _, hw⟩ := DataW.trod_int ht h
    exact ⟨[.int k n], ⟨n, rfl, hw⟩, VRs_one (by simp only [VR])⟩
  | .ts, t, fuel, cs, x, hf, h => by
    simp only [Sh.fits] at hf
    split at hf
    case h_2 => cases hf
    rename_i ht
    obtain ⟨n, rfl, _, hw⟩ := DataW.trod_string ht h
    exact ⟨[.str n], ⟨n, rfl, hw⟩, VRs_one (by simp only [VR])⟩
  | .tl z e, t, fuel, cs, x, hf, h => by
    simp only [Sh.fits] at hf
    split at hf
    case h_2 => cases hf
    rename_i te ht
    simp only [Bool.and_eq_true, Bool.not_eq_true'] at hf
    obtain ⟨⟨⟨h1, h2⟩, h3⟩, h4⟩ := hf
    have h1 := beqN h1
    have h2 := beqN h2
    have hz : 0 < z := by
      rcases Nat.eq_zero_or_pos z with e0 | e0
      · rw [e0] at h3; cases h3
      · exact e0
    rcases Go.Deep.open_slice ht h with ⟨rfl, _⟩ | ⟨a, len, cap, m, n, D, Pl, rfl, hb, hl, hm, hmm, _, hi⟩
    · exact ⟨[.snil], .inl rfl, VRs_one (by simp only [VR])⟩
    · have hlm : len ≤ m := by rw [hmm]; split <;> omega
      have row : ∀ i, i < len → ∃ r, e.has r ∧ ∃ cs', w.cells? base (a.add (i * z)) z = some cs' ∧ VRs w noF (allG w) r (fun j => cs'[j]?) := fun i hi2 => by
        obtain ⟨cs', hc, htr⟩ := hi i (by omega)
        obtain ⟨r, hr, hv⟩ := Sh.open_ok e h4 htr
        exact ⟨r, hr, cs', by rw [← h1]; exact hc, hv⟩
      obtain ⟨g, hg⟩ : ∃ g : Nat → List V, ∀ i, i < len → e.has (g i) ∧ ∃ cs', w.cells? base (a.add (i * z)) z = some cs' ∧ VRs w noF (allG w) (g i) (fun j => cs'[j]?) := by
        refine ⟨fun i => if hi : i < len then (row i hi).choose else [], fun i hi => ?_⟩
        simp only [hi, dif_pos]
        exact (row i hi).choose_spec
      refine ⟨[.imm false z false ((List.range len).map g)], .inr ⟨_, rfl, by simp; omega, fun r hr => ?_⟩, VRs_one ?_⟩
      · obtain ⟨i, hi2, rfl⟩ := List.mem_map.1 hr
        exact (hg i (List.mem_range.1 hi2)).1
      · simp only [VR]
        refine ⟨a, cap, by simp, by simpa using hl, fun hc => (by cases hc), fun hne => ?_⟩
        have hlen : 0 < len := by
          rcases Nat.eq_zero_or_pos len with e0 | e0
          · subst e0; exact absurd rfl hne
          · exact e0
        obtain ⟨hh, cs0, hc0, _⟩ := hg 0 hlen
        obtain ⟨_, hl0, hc0⟩ := World.cells?_some hc0
        have c00 := hc0 0 hz
        have hsome : cs0[0]? = some (cs0[0]'(by omega)) := List.getElem?_eq_getElem (by omega)
        rw [hsome, Nat.zero_mul, show (a.add 0).add 0 = a from rfl] at c00
        unfold World.cell? at c00
        cases hbl : w.heap[a.block]? with
        | none => rw [hbl] at c00; cases c00
        | some ob =>
          rw [hbl] at c00
          cases ob with
          | cells cc el fr =>
            simp only at c00
            have hspot : a.spot = none := by
              cases hs : a.spot with
              | none => rfl
              | some q => rw [hs] at c00; simp at c00
            refine ⟨hspot, (Array.getElem?_eq_some_iff.1 hbl).1, cc, el, fr, rfl, VRr_iff.2 fun i r hr => ?_⟩
            rw [List.getElem?_map] at hr
            cases hri : (List.range len)[i]? with
            | none => rw [hri] at hr; cases hr
            | some i' =>
              rw [hri] at hr
              simp only [Option.map_some, Option.some.injEq] at hr
              obtain ⟨hil, hie⟩ := List.getElem?_eq_some_iff.1 hri
              simp only [List.length_range] at hil
              simp only [List.getElem_range] at hie
              subst hie; subst hr
              obtain ⟨g1, cs', g2, g3⟩ := hg i hil
              obtain ⟨_, g4, g5⟩ := World.cells?_some g2
              refine ⟨by rw [Sh.has_len g1, ← h2], Sh.has_ones g1, VRs_iff.2 fun j v hj => ?_⟩
              obtain ⟨u, hu, hv⟩ := VRs_iff.1 g3 j v hj
              refine ⟨u, ?_, hv⟩
              have hjz : j < z := by rw [← g4]; exact (List.getElem?_eq_some_iff.1 hu).1
              have := g5 j hjz
              rw [hu] at this
              have hsp2 : (a.add (i * z)).spot = none := by unfold Addr.add; split <;> simp [hspot]
              rw [cell_add hsp2] at this
              have hb2 : (a.add (i * z)).block = a.block := by unfold Addr.add; split <;> rfl
              have ho2 : (a.add (i * z)).off = a.off + i * z := by
                unfold Addr.add
                split
                · rename_i h0; omega
                · rfl
              rw [hb2, hbl, ho2] at this
              simp only at this
              rw [← this]
              congr 1
              omega
          | _ => simp at c00
  | .tst fs, t, fuel, cs, x, hf, h => by
    simp only [Sh.fits] at hf
    split at hf
    case h_2 => cases hf
    rename_i F ht
    simp only [Bool.and_eq_true] at hf
    obtain ⟨h1, h2⟩ := hf
    obtain ⟨xs, n, _, _, hlen, hxl, hfs⟩ := DataW.trod_struct ht h
    obtain ⟨vs, hv, hr⟩ := Sh.opens_ok fs F.toList 0 h1 (n := n) (cs := cs) fun i f hi => by
      have := hfs i f (by simpa using hi)
      have hix : i < xs.length := by
        rw [hxl]
        have := (List.getElem?_eq_some_iff.1 hi).1
        simpa using this
      rw [List.getElem?_eq_getElem hix] at this
      exact ⟨_, this⟩
    exact ⟨vs, hv, by simpa using hr⟩
theorem Sh.opens_ok : ∀ (l : List Sh) (F : List Field) (off : Nat), Sh.fitss P l F off = true → ∀ {n : Nat} {cs : List Value}, (∀ (i : Nat) (f : Field), F[i]? = some f → ∃ y, DataW.trod enc P w base spare held n f.type ((cs.drop f.offset).take (P.cellsOf f.type)) = some y) →
    ∃ vs, Sh.hass l vs ∧ VRs w noF (allG w) vs (fun i => cs[off + i]?)
  | [], [], off, _, n, cs, _ => ⟨[], rfl, by simp [VRs]⟩
  | s :: r, f :: fs, off, hf, n, cs, h => by
    simp only [Sh.fitss, Bool.and_eq_true] at hf
    obtain ⟨⟨⟨h1, h2⟩, h3⟩, h4⟩ := hf
    have h1 := beqN h1
    have h2 := beqN h2
    obtain ⟨y, hy⟩ := h 0 f rfl
    obtain ⟨a, ha, hva⟩ := Sh.open_ok s h3 hy
    obtain ⟨b, hb, hvb⟩ := Sh.opens_ok r fs (off + s.sz) h4 (n := n) (cs := cs) fun i g hi => h (i + 1) g (by simpa using hi)
    refine ⟨a ++ b, ⟨a, b, rfl, ha, hb⟩, ?_⟩
    have hal := Sh.has_len ha
    rw [h1, h2, ← hal] at hva
    have e1 := skipG hva
    refine VRs_iff.2 fun i v hi => ?_
    by_cases hia : i < a.length
    · rw [List.getElem?_append_left hia] at hi
      exact VRs_iff.1 e1 i v hi
    · rw [List.getElem?_append_right (by omega)] at hi
      obtain ⟨u, hu, hv⟩ := VRs_iff.1 hvb (i - a.length) v hi
      refine ⟨u, ?_, hv⟩
      rw [← hu]
      congr 1
      omega
  | [], _ :: _, _, hf, _, _, _ => by simp [Sh.fitss] at hf
  | _ :: _, [], _, hf, _, _, _ => by simp [Sh.fitss] at hf
end
end
end Go.Ev
end
