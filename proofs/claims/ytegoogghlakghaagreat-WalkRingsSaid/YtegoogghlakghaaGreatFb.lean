/- By an AI agent. What is proved here: the soundness of the evaluator's single steps, second part. -/
import Derived.Test.YtegoogghlakghaaGreatFa
import Derived.MapKept
import Derived.Scope
import Derived.LoopNIn
import Derived.TacticsIn
section
set_option linter.unusedVariables false
set_option linter.unusedSimpArgs false
namespace Go.Ev
variable {P : Program} {cx : Cx} {w : World} {f : FM} {G : GM} {h : Hp}
def Keyed (kk : K3) (d : TypeDesc) : Prop := (kk = .b ∧ d = .bool) ∨ (kk = .i ∧ ∃ k, d = .int k) ∨ (kk = .s ∧ d = .string)
theorem lookM_ok {kk : K3} {d : TypeDesc} (hd : Keyed kk d) {k : V} {u : Value} (hk : VR w f G k u) : ∀ {es : List (V × V)} {r : List MapEntry} {o : Option V} (i : Nat), ME w f G es r → lookM kk k es = some o →
    (∃ v j e, o = some v ∧ Instr.findNow d u r i = some (some (j, e)) ∧ VR w f G v e) ∨ (o = none ∧ Instr.findNow d u r i = some none)
  | [], [], o, i, _, h => by simp only [lookM, Option.some.injEq] at h; exact .inr ⟨h.symm, rfl⟩
  | [], _ :: _, _, _, hm, _ => hm.elim
  | (_, _) :: _, [], _, _, hm, _ => hm.elim
  | (k', v) :: es, e :: r, o, i, hm, h => by
    simp only [lookM] at h
    split at h
    · rename_i he
      cases h
      have := (eq1_ok hd hk hm.1 he).1
      exact .inl ⟨v, i, e.val, rfl, by simp [Instr.findNow, this], hm.2.1⟩
    · rename_i he
      have := (eq1_ok hd hk hm.1 he).1
      have ih := lookM_ok hd hk (i + 1) hm.2.2 h
      simpa [Instr.findNow, this] using ih
    · cases h
theorem getMap {k c : Nat} {es : Array MapEntry} (h : w.heap[k]? = some (.map es c)) : (getObj k).run P w = .ok (.map es c) w := by simp only [getObj, Sem.run, h]
theorem setMap {k c : Nat} {es : Array MapEntry} (o : Obj) (h : w.heap[k]? = some (.map es c)) : (setObj k o).run P w = .ok () (setBlk w k o) := by simp only [setObj, Sem.run, h]; rfl
theorem checkKey_ok {kk : K3} {d : TypeDesc} (hd : Keyed kk d) {t : Nat} (ht : P.underlying t = some d) (b : Bool) (u : Value) (w : World) : (Instr.checkKey b 10000 t u).run P w = .ok () w := by
  suffices hh : ∀ n, (Instr.checkKey b (n + 1) t u).run P w = .ok () w from hh 9999
  intro n
  rcases hd with ⟨rfl, rfl⟩ | ⟨rfl, k, rfl⟩ | ⟨rfl, rfl⟩ <;> simp only [Instr.checkKey, Sem.run_bind, run_underlying ht, Result.andThen_ok, Sem.run_pure]
theorem entries_ok (i : Inv w f G h) {x : V} {u : Value} {es : List (V × V)} (hx : VR w f G x u) (he : entries h x = some es) :
    (u = .map none ∧ es = []) ∨ (∃ b k s z es' c, x = .map b ∧ f b = some (k, s, z) ∧ u = .map (some k) ∧ h.get b = some (.map es) ∧ w.heap[k]? = some (.map es' c) ∧ ME w f G es es'.toList) := by
  unfold entries at he
  split at he
  · simp only [VR] at hx; cases he; exact .inl ⟨hx, rfl⟩
  · rename_i b
    simp only [VR] at hx
    obtain ⟨k, s, z, hf, rfl⟩ := hx
    split at he
    · rename_i es0 hg
      cases he
      obtain ⟨es', c, h1, h2⟩ := i.rel b k s z _ hf hg
      exact .inr ⟨b, k, s, z, es', c, rfl, hf, rfl, hg, h1, h2⟩
    · cases he
  · cases he
theorem zeroOf_ok (hc : TyOk P cx) {t : Nat} {z : V} (h : zeroOf cx t = some z) : ∃ u, (zeroValue t).run P w = .ok u w ∧ VR w f G z u := by
  unfold zeroOf at h
  split at h
  · rename_i i hi
    obtain ⟨u, h1, h2⟩ := (hc.ty _ _ hi).zero h w
    exact ⟨u, h1, ofConst_ok h2⟩
  · cases h
theorem lookV_ok (hc : TyOk P cx) (i : Inv w f G h) {t : Nat} {x k v : V} {p q : Value} {ok : Bool} (hx : VR w f G x p) (hk : VR w f G k q) (hl : lookV cx h t x k ok = some v) :
    ∃ u, (Instr.lookup t p q ok).run P w = .ok u w ∧ VR w f G v u := by
  unfold lookV at hl
  split at hl
  case h_2 => cases hl
  rename_i ti es ht hes
  obtain ⟨d, hd, hdd, _⟩ := (hc.ty _ _ ht).und w
  split at hl
  case h_2 => cases hl
  rename_i kt e htd
  rw [htd] at hdd
  have := td_map hdd; subst this
  split at hl
  case h_2 => cases hl
  rename_i kk z hkk hz
  obtain ⟨dk, hdk, hkd⟩ := key_ok hc hkk
  obtain ⟨zu, hzu, hzv⟩ := zeroOf_ok (P := P) (w := w) (f := f) (G := G) hc hz
  have tupR : ∀ {v1 : V} {e1 : Value} (o : Bool), VR w f G v1 e1 → VR w f G (if ok then .tup [v1, .bool o] else v1) (if ok then .tuple #[e1, .bool o] else e1) := fun {v1 e1} o hr => by
    cases ok
    · exact hr
    · simp only [if_true, VR]
      exact ⟨_, rfl, rfl, by simp [VRs, VR, hr]⟩
  rcases entries_ok i hx hes with ⟨rfl, rfl⟩ | ⟨b, k', s, z', es', c, rfl, hf, rfl, hg, h1, h2⟩
  · simp only [lookM] at hl
    cases hl
    exact ⟨_, by simp [Instr.lookup, hd, checkKey_ok hkd hdk, Instr.findKey, run_underlying hdk, Instr.findNow, hzu], tupR false hzv⟩
  · split at hl
    · rename_i vv hlk
      cases hl
      rcases lookM_ok hkd hk 0 h2 hlk with ⟨v1, j, e1, he, hfn, hr⟩ | ⟨he, _⟩
      · cases he
        exact ⟨_, by simp [Instr.lookup, hd, getMap h1, checkKey_ok hkd hdk, Instr.findKey, run_underlying hdk, hfn], tupR true hr⟩
      · cases he
    · rename_i hlk
      cases hl
      rcases lookM_ok hkd hk 0 h2 hlk with ⟨v1, j, e1, he, hfn, hr⟩ | ⟨_, hfn⟩
      · cases he
      · exact ⟨_, by simp [Instr.lookup, hd, getMap h1, checkKey_ok hkd hdk, Instr.findKey, run_underlying hdk, hfn, hzu], tupR false hzv⟩
    · cases hl
theorem setM_ok {kk : K3} {d : TypeDesc} (hd : Keyed kk d) {k x : V} {u y : Value} (hk : VR w f G k u) (hx : VR w f G x y) : ∀ {es es' : List (V × V)} {r : List MapEntry} (i : Nat), ME w f G es r → setM kk k x es = some es' →
    (∃ j e, i ≤ j ∧ Instr.findNow d u r i = some (some (j, e)) ∧ (∃ o, r[j - i]? = some o ∧ Instr.sameBits 10000 o.key u = true) ∧ ME w f G es' (r.modify (j - i) fun e => { e with key := u, val := y })) ∨
    (Instr.findNow d u r i = some none ∧ ∀ c, ME w f G es' (r ++ [{ key := u, val := y, born := c }]))
  | [], es', [], i, _, h => by
    simp only [setM, Option.some.injEq] at h
    subst h
    exact .inr ⟨rfl, fun c => ⟨hk, hx, trivial⟩⟩
  | [], _, _ :: _, _, hm, _ => hm.elim
  | (_, _) :: _, _, [], _, hm, _ => hm.elim
  | (k', v) :: es, es', e :: r, i, hm, h => by
    simp only [setM] at h
    split at h
    · rename_i he
      cases h
      have := eq1_ok hd hk hm.1 he
      refine .inl ⟨i, e.val, Nat.le_refl _, by simp [Instr.findNow, this.1], ⟨e, by simp, this.2 rfl⟩, ?_⟩
      simp only [Nat.sub_self, List.modify_zero_cons]
      exact ⟨hk, hx, hm.2.2⟩
    · rename_i he
      have h1 := (eq1_ok hd hk hm.1 he).1
      split at h
      · rename_i l hl
        cases h
        rcases setM_ok hd hk hx (i + 1) hm.2.2 hl with ⟨j, e2, hj, hfn, ⟨o, ho, hb⟩, hME⟩ | ⟨hfn, hME⟩
        · refine .inl ⟨j, e2, by omega, by simp [Instr.findNow, h1, hfn], ⟨o, ?_, hb⟩, ?_⟩
          · rw [show j - i = (j - (i + 1)) + 1 by omega]; simpa using ho
          · rw [show j - i = (j - (i + 1)) + 1 by omega, List.modify_succ_cons]
            exact ⟨hm.1, hm.2.1, hME⟩
        · exact .inr ⟨by simp [Instr.findNow, h1, hfn], fun c => ⟨hm.1, hm.2.1, hME c⟩⟩
      · cases h
    · cases h
theorem mapUpdate_ok (hc : TyOk P cx) (i : Inv w f G h) {t kt e : Nat} {ti : Ti} {kk : K3} {b : Nat} {k x : V} {m u y : Value} {es es' : List (V × V)} (ht : cx.ty t = some ti) (htd : ti.d = .map kt e) (hkk : keyKind cx kt = some kk)
    (hm : VR w f G (.map b) m) (hk : VR w f G k u) (hx : VR w f G x y) (hg : h.get b = some (.map es)) (hs : setM kk k x es = some es') :
    ∃ w', (Instr.mapUpdate t m u y).run P w = .ok () w' ∧ Stp w f G h w' f G (h.put b (.map es')) ∧ Inv w' f G (h.put b (.map es')) := by
  obtain ⟨d, hd, hdd, _⟩ := (hc.ty _ _ ht).und w
  rw [htd] at hdd
  have := td_map hdd; subst this
  obtain ⟨dk, hdk, hkd⟩ := key_ok hc hkk
  simp only [VR] at hm
  obtain ⟨kb, s, z, hf, rfl⟩ := hm
  obtain ⟨L, c, h1, h2⟩ := i.rel b kb s z _ hf hg
  have hl : live h b := ⟨_, hg, rfl⟩
  have hkb := (i.rng b kb s z hf).1
  have fin : ∀ (L' : Array MapEntry) (c' : Nat), ME w f G es' L'.toList → Stp w f G h (setBlk w kb (.map L' c')) f G (h.put b (.map es')) ∧ Inv (setBlk w kb (.map L' c')) f G (h.put b (.map es')) := fun L' c' hL' =>
    put_ok i hf hl (.map L' c') (.map es') (fun _ _ _ hy => by rw [h1] at hy; cases hy) fun hG => ⟨L', c', by rw [setBlk_get _ _ _ _ hkb, if_pos rfl], ME.mono (FLe.refl _) (GLe.refl _) hG hL'⟩
  rcases setM_ok hkd hk hx 0 h2 hs with ⟨j, e2, _, hfn, ⟨o, ho, hb⟩, hME⟩ | ⟨hfn, hME⟩
  · simp only [Nat.sub_zero] at ho hME
    have ho' : L[j]? = some o := by simpa using ho
    have := fin (L.modify j fun e => { e with key := u, val := y }) c (by simpa using hME)
    refine ⟨_, ?_, this.1, this.2⟩
    simp [Instr.mapUpdate, hd, getMap h1, checkKey_ok hkd hdk, Instr.findKey, run_underlying hdk, hfn, ho', Instr.keyThatStays, hb, setMap _ h1]
  · have := fin (L.push { key := u, val := y, born := c }) (c + 1) (by simpa using hME c)
    refine ⟨_, ?_, this.1, this.2⟩
    simp [Instr.mapUpdate, hd, getMap h1, checkKey_ok hkd hdk, Instr.findKey, run_underlying hdk, hfn, setMap _ h1]
end Go.Ev
end

section
set_option linter.unusedVariables false
set_option linter.unusedSimpArgs false
namespace Go.Ev
variable {P : Program} {cx : Cx} {w : World} {f : FM} {G : GM} {h : Hp}
theorem rowOf_ok (i : Inv w f G h) {z : Nat} {x : V} {u : Value} {rows : List (List V)} (hx : VR w f G x u) (hr : rowOf h z x = some rows) :
    ∃ a c, u = .slice a rows.length c ∧ rows.length ≤ c ∧ (rows ≠ [] → ∃ k o cc e fr, a = some ⟨k, o, none⟩ ∧ w.heap[k]? = some (.cells cc e fr) ∧ VRr w f G z rows (fun j => cc[o + j]?)) := by
  unfold rowOf at hr
  split at hr
  · cases hr
    simp only [VR] at hx
    subst hx
    exact ⟨none, 0, rfl, Nat.le_refl _, fun h => absurd rfl h⟩
  · rename_i β z' clip es
    split at hr
    · rename_i hz
      subst hz
      cases hr
      simp only [VR] at hx
      obtain ⟨a, c', rfl, hn, _, hrest⟩ := hx
      refine ⟨some a, c', rfl, hn, fun hne => ?_⟩
      obtain ⟨hs, hg, cc, e, fr, hb, hrow⟩ := hrest hne
      obtain ⟨k, o, sp⟩ := a
      simp only at hs
      subst hs
      exact ⟨k, o, cc, e, fr, rfl, hb, VRr.mono _ _ (noF_le _) (cut_le i.gup β) (GKept.refl _ _) hrow⟩
    · cases hr
  · rename_i b o n z' c
    split at hr
    · rename_i hz
      subst hz
      split at hr
      · rename_i rows0 z2 hg
        split at hr
        · rename_i hz2
          subst hz2
          simp only [VR] at hx
          obtain ⟨k, s, c', a, hf, rfl, ha, hn, _⟩ := hx
          have hl := seg_length hr
          refine ⟨some a, c', by rw [hl], by omega, fun hne => ?_⟩
          have hn0 : n ≠ 0 := by rintro rfl; exact hne (List.eq_nil_of_length_eq_zero hl)
          obtain ⟨_, cc, e, fr, hb, _, hrow⟩ := i.rel b k s z2 _ hf hg
          refine ⟨k, s + o * z2, cc, e, fr, by rw [ha (by omega)], hb, VRr_iff.2 fun j r hj => ?_⟩
          rw [seg_get hr] at hj
          split at hj
          · obtain ⟨q1, q2, q3⟩ := VRr_iff.1 hrow _ _ hj
            refine ⟨q1, q2, ?_⟩
            have e9 : (fun q => cc[s + o * z2 + (j * z2 + q)]?) = fun q => cc[s + ((o + j) * z2 + q)]? := by
              funext q; congr 1; rw [Nat.add_mul]; omega
            rw [e9]; exact q3
          · cases hj
        · cases hr
      · cases hr
    · cases hr
  · cases hr
theorem numsOf_ok : ∀ {rows : List (List V)} {l : List Int} {g : Nat → Option Value}, VRr w f G 1 rows g → numsOf rows = some l → l.length = rows.length ∧ ∀ i, i < l.length → g i = some (.int .u8 (l.getD i 0))
  | [], l, g, _, h => by simp [numsOf] at h; subst h; simp
  | r :: rows, l, g, hv, h => by
    unfold numsOf at h
    split at h
    · rename_i h0; cases h0
    · rename_i n r' h0
      cases h0
      split at h
      · rename_i l' hl'
        cases h
        simp only [VRr] at hv
        obtain ⟨_, _, h3, h4⟩ := hv
        simp only [VRs, VR] at h3
        obtain ⟨⟨u, hu, rfl⟩, _⟩ := h3
        obtain ⟨q1, q2⟩ := numsOf_ok h4 hl'
        refine ⟨by simp [q1], fun i hi => ?_⟩
        cases i with
        | zero => simpa using hu
        | succ i =>
          have := q2 i (by simpa using hi)
          rw [Nat.add_comm] at this
          simpa using this
      · cases h
    · cases h
/-- the cells that a string's bytes are laid into -/
def bytesRow (w : World) (s : ByteArray) (e : TypeId) : Array Value := s.data.map (fun b => .int .u8 b.toNat) ++ Array.replicate (grownCap w s.size 0 e - s.size) (.int .u8 0)
theorem freeze_last (w : World) (c : Array Value) (e : TypeId) (n : Nat) : (w.alloc (.cells c e)).freeze ⟨w.heap.size, n, none⟩ 1 = w.alloc (.cells c e (n, n + 1)) := by
  unfold World.freeze World.alloc
  simp only [Nat.one_ne_zero, if_false]
  congr 1
  apply Array.ext_getElem?
  intro j
  rw [Array.getElem?_modify, Array.getElem?_push, Array.getElem?_push]
  by_cases e1 : j = w.heap.size
  · subst e1; simp
  · rw [if_neg e1, if_neg e1, if_neg (Ne.symm e1)]
theorem run_stringToBytes (w : World) (s : ByteArray) (e : TypeId) :
    (Conv.stringToBytes e s).run P w = .ok (.slice (some ⟨w.heap.size, 0, none⟩) s.size (grownCap w s.size 0 e)) (w.drew.alloc (.cells (bytesRow w s e) e ((bytesRow w s e).size, (bytesRow w s e).size + 1))) := by
  have hsh : (w.drew.alloc (.cells (bytesRow w s e) e)).shape? w.heap.size = some (e, (bytesRow w s e).size) := by
    simp only [World.shape?]
    rw [show w.heap.size = w.drew.heap.size from rfl, heap_alloc_new]
  rw [← freeze_last]
  simp only [Conv.stringToBytes, Sem.run_bind, run_choose, Question.forced, Bool.false_eq_true, if_false, Result.andThen_ok, newRow, run_newObj, Sem.run_pure]
  simp only [markStringish, Sem.run_bind, run_shape, Result.andThen_ok]
  have e0 : ({ w with drawn := w.drawn + 1 } : World) = w.drew := rfl
  have e1 : (s.data.map (fun b => Value.int .u8 b.toNat) ++ Array.replicate ((Question.appendCap s.size 0 e).cut (w.tape w.drawn (Question.appendCap s.size 0 e)) - s.size) (.int .u8 0)) = bytesRow w s e := rfl
  have e2 : ({ heap := w.heap.push (.cells (bytesRow w s e) e), tape := w.tape, drawn := w.drawn + 1, os := w.os, output := w.output } : World) = w.drew.alloc (.cells (bytesRow w s e) e) := rfl
  simp only [e1, e2]
  rw [hsh]
  simp [grownCap]
theorem conv_ok (hc : TyOk P cx) (i : Inv w f G h) {src dst : Nat} {x v : V} {p : Value} {h' : Hp} (hx : VR w f G x p) (hv : conv cx h src dst x = some (v, h')) :
    ∃ u w' f', (convert src dst p).run P w = .ok u w' ∧ Stp w f G h w' f' G h' ∧ Inv w' f' G h' ∧ VR w' f' G v u := by
  unfold conv at hv
  split at hv
  case h_2 => cases hv
  rename_i tj ti hj hi
  obtain ⟨d1, hd1, hdd1, hu1⟩ := (hc.ty _ _ hj).und w
  obtain ⟨d2, hd2, hdd2, hu2⟩ := (hc.ty _ _ hi).und w
  split at hv
  · rename_i k1 k2 k3 n e1 e2
    cases hv
    simp only [VR] at hx; subst hx
    rw [e2] at hdd2
    have := td_int hdd2; subst this
    exact ⟨.int k2 (k2.wrap n), w, f, by simp [convert, hd1, hd2, Conv.intToInt], Stp.refl .., i, by simp [VR]⟩
  · rename_i k1 k2 k3 n e1 e2
    cases hv
    simp only [VR] at hx; subst hx
    rw [e2] at hdd2
    have := td_flt hdd2; subst this
    exact ⟨.float k2 (k2.nearest n), w, f, by simp [convert, hd1, hd2, Conv.intToFloat], Stp.refl .., i, by simp [VR]⟩
  · rename_i k1 k2 s b e1 e2
    simp only [VR] at hx; subst hx
    rw [e2] at hdd2
    have := td_int hdd2; subst this
    split at hv
    · rename_i n hn
      split at hv
      · rename_i hr
        cases hv
        exact ⟨.int k2 n, w, f, by simp [convert, hd1, hd2, Conv.floatToInt, hn, hr], Stp.refl .., i, by simp [VR]⟩
      · cases hv
    · cases hv
  · rename_i s e1 e2
    cases hv
    simp only [VR] at hx; subst hx
    rw [e2] at hdd2
    have := td_str hdd2; subst this
    exact ⟨.string s, w, f, by simp [convert, hd1, hd2], Stp.refl .., i, by simp [VR]⟩
  · rename_i e s e1 e2
    simp only [VR] at hx; subst hx
    rw [e2] at hdd2
    have := td_slice hdd2; subst this
    split at hv
    · rename_i a0 b0 z0 f0 he
      cases hv
      obtain ⟨de, hde, hdde, hue⟩ := (hc.ty _ _ he).und w
      have := td_int hdde; subst this
      have hd1' := td_str (hdd1.trans e1)
      subst hd1'
      have hcap : s.size ≤ grownCap w s.size 0 e := grownCap_ge w s.size 0 e
      have hi' := i.of_heap (w' := w.drew) rfl
      have ha := add_ok hi' (.cells (bytesRow w s e) e ((bytesRow w s e).size, (bytesRow w s e).size + 1)) (.cells (strRows s) 1) 0 1 (fun f' hf hG => ⟨rfl, bytesRow w s e, e, _, heap_alloc_new _ _, .inr (Nat.le_refl _), VRr_iff.2 fun q r hq => by
        simp only [strRows, List.getElem?_map] at hq
        cases hb : s.data.toList[q]? with
        | none => simp [hb] at hq
        | some b =>
          simp only [hb, Option.map_some, Option.some.injEq] at hq
          subst hq
          have hlt := (List.getElem?_eq_some_iff.1 hb).1
          rw [Array.length_toList] at hlt
          refine ⟨rfl, by simp [ones, V.one], VRs_iff.2 fun m v hm => ?_⟩
          cases m with
          | zero =>
            simp only [List.getElem?_cons_zero, Option.some.injEq] at hm
            subst hm
            refine ⟨.int .u8 b.toNat, ?_, by simp [VR]⟩
            simp only [Nat.zero_add, Nat.mul_one, Nat.add_zero, bytesRow]
            rw [Array.getElem?_append_left (by simpa using hlt), Array.getElem?_map]
            have : s.data[q]? = some b := by simpa using hb
            rw [this]; rfl
          | succ m => simp at hm⟩)
      refine ⟨.slice (some ⟨w.heap.size, 0, none⟩) s.size (grownCap w s.size 0 e), _, _, ?_, (Stp.drew w f G h).trans ha.1, ha.2, ?_⟩
      · rw [← run_stringToBytes (P := P) w s e]
        simp [convert, hd1, hd2, hde]
      · simp only [VR]
        exact ⟨w.heap.size, 0, _, _, by simp [fset], rfl, by simp, hcap, by simp, bytesRow w s e, e, _, heap_alloc_new w.drew _, by have hs0 : s.data.size = s.size := rfl; simp only [bytesRow, Array.size_append, Array.size_map, Array.size_replicate, hs0]; omega⟩
    · cases hv
  · rename_i x' e e1 e2
    rw [e1] at hdd1
    rw [e2] at hdd2
    have := td_slice hdd1; subst this
    have := td_str hdd2; subst this
    split at hv
    · rename_i a0 s0 b0 z0 f0 cs he hrow
      obtain ⟨de, hde, hdde, hue⟩ := (hc.ty _ _ he).und w
      have := td_int hdde; subst this
      split at hv
      · rename_i l hl
        cases hv
        obtain ⟨a, c, rfl, hle, hne⟩ := rowOf_ok i hx hrow
        refine ⟨.string (strOfNums l), w, f, ?_, Stp.refl .., i, by simp [VR]⟩
        by_cases hcs : cs = []
        · subst hcs
          simp only [numsOf, Option.some.injEq] at hl
          subst hl
          cases a with
          | none =>
            rw [run_convert_bytes_nil w src e hu1 hue _ _ dst hu2]; rfl
          | some a =>
            rw [run_convert_bytes_string w src dst e _ _ _ hu1 hue hu2]
            simp [Conv.bytesToString, loadCells, loadCellsFrom]
            rfl
        · obtain ⟨k, o, cc, e', fr, rfl, hb, hrr⟩ := hne hcs
          obtain ⟨q1, q2⟩ := numsOf_ok hrr hl
          refine run_convert_bytes_arg w src e hu1 hue k o _ c l q1 (fun i hi => ?_) dst hu2
          rw [cell_of_row w k _ cc e' fr hb]
          exact q2 i (by omega)
      · cases hv
    · cases hv
  · cases hv
end Go.Ev
end

section
set_option linter.unusedVariables false
set_option linter.unusedSimpArgs false
namespace Go.Ev
variable {P : Program} {cx : Cx} {w : World} {f : FM} {G : GM} {h : Hp}
theorem keep_some {o : Option V} {v : V} {h' : Hp} (hk : keep h o = some (v, h')) : o = some v ∧ h' = h := by
  cases o with
  | none => simp [keep] at hk
  | some x => simp only [keep, Option.some.injEq, Prod.mk.injEq] at hk; exact ⟨by rw [hk.1], hk.2.symm⟩
theorem ev_some {s : St} {o : Operand} {a : Act} {v : V} (ha : ActR w f G s.tm a) (h : ev s.tm o = some v) : VR w f G v (a.eval o) := ev_ok ha h
theorem optEv_ok {tm : List V} {a : Act} {o : Option Operand} {v : Option V} (ha : ActR w f G tm a) (h : optEv tm o = some v) : ORel w f G v (o.map a.eval) := by
  cases o with
  | none => simp only [optEv, Option.some.injEq] at h; subst h; rfl
  | some o =>
    simp only [optEv] at h
    cases h1 : ev tm o with
    | none => simp [h1] at h
    | some x =>
      simp only [h1, Option.some.injEq] at h
      subst h
      exact ⟨_, rfl, ev_ok ha h1⟩
theorem r0 (g : Nat → Value) : (Array.range 0).map g = #[] := by simp [Array.size_eq_zero_iff.1 (Array.size_range (n := 0))]
theorem opMkSlice_ok (hc : TyOk P cx) {s : St} {a : Act} (i : Inv w f G s.h) (ha : ActR w f G s.tm a) {t : Nat} {l c : Operand} {v : V} {h' : Hp} (h : opMkSlice cx s t l c = some (v, h')) :
    ∃ u w' f', (Instr.makeSlice t (a.eval l) (a.eval c)).run P w = .ok u w' ∧ Stp w f G s.h w' f' G h' ∧ Inv w' f' G h' ∧ VR w' f' G v u := by
  unfold opMkSlice at h
  split at h
  case h_2 => cases h
  rename_i ti k1 l0 k2 c0 ht hl hcc
  obtain ⟨d, hd, hdd, hu⟩ := (hc.ty _ _ ht).und w
  have hl' := ev_ok ha hl
  have hc' := ev_ok ha hcc
  simp only [VR] at hl' hc'
  rw [hl', hc']
  split at h
  case h_2 => cases h
  rename_i e htd
  rw [htd] at hdd
  have := td_slice hdd; subst this
  split at h
  case h_2 => cases h
  rename_i te hte
  split at h
  case h_2 => cases h
  rename_i z hz
  split at h
  case isFalse => cases h
  rename_i hcond
  obtain ⟨c1, rfl, c3, c4, c5, c6⟩ := hcond
  cases h
  obtain ⟨info, hti, hbytes, hinfo, _, hsize⟩ := (hc.ty _ _ hte).bytes w
  obtain ⟨zu, info', hzv, hinfo', hzz, z1, z2, z3⟩ := zeroCl_ok (P := P) (w := w) (f := f) (G := G) hc hz
  have hzs : ∀ w, (Go.sizeOf e).run P w = .ok z.length w := fun w => by rw [(hc.ty _ _ hte).sizeOf w, c5]
  have hrow : VRr w f G z.length (List.replicate l0.toNat z) (fun j => ((Array.range (l0.toNat * z.length)).map (zu.cells[· % zu.cells.size]!))[j]?) := zrows_ok z1 z2 z3
  have hrow' : VRr w f G te.size (List.replicate l0.toNat z) (fun j => ((Array.range (l0.toNat * z.length)).map (zu.cells[· % zu.cells.size]!))[j]?) := by rw [← c5]; exact hrow
  have hw := wrap_small c1 c4
  have hnl : ¬ (l0 < 0) := by omega
  have p46 : (2 : Int) ^ 46 = 70368744177664 := by decide
  have p48 : (2 : Int) ^ 48 = 281474976710656 := by decide
  have hbig : ¬ ((info.bytes : Int) * l0 > 2 ^ 48) := by rw [hbytes, Int.mul_comm]; omega
  have hbig' : ¬ (281474976710656 < (info.bytes : Int) * l0) := by omega
  have := newRow_ok i (rows := List.replicate l0.toNat z) (z := te.size) e hrow'
  refine ⟨.slice (some ⟨w.heap.size, 0, none⟩) l0.toNat l0.toNat, w.alloc (.cells ((Array.range (l0.toNat * z.length)).map (zu.cells[· % zu.cells.size]!)) e), _, ?_, this.1, this.2, ?_⟩
  · have hz0 : ∀ m : Nat, ((if m = 0 then pure #[] else do pure (← zeroValue e).cells : Sem (Array Value))).run P w = .ok (if m = 0 then #[] else zu.cells) w := fun m => by
      by_cases hm : m = 0 <;> simp [hm, hzv]
    by_cases hm : l0.toNat * z.length = 0
    · have : l0.toNat = 0 := by
        rcases Nat.mul_eq_zero.1 hm with h' | h'
        · exact h'
        · omega
      simp [Instr.makeSlice, hd, asInt, asIntOf, hti, hw, hnl, hbig, hbig', hzs, this, newRow, r0]
    · simp [Instr.makeSlice, hd, asInt, asIntOf, hti, hw, hnl, hbig, hbig', hzs, hm, hzv, newRow]
  · simp only [VR]
    exact ⟨w.heap.size, 0, l0.toNat, _, by simp [fset], rfl, fun _ => by simp, Nat.le_refl _, by simp, _, _, _, heap_alloc_new w _, by simp [c5]⟩
theorem opBuildSlice_ok (hc : TyOk P cx) {s : St} {a : Act} (i : Inv w f G s.h) (ha : ActR w f G s.tm a) {t n : Nat} {ps : Array (Nat × Operand)} {v : V} {h' : Hp} (h : opBuildSlice cx s t n ps = some (v, h')) :
    ∃ u w' f', (Instr.buildSlice t n (ps.map fun (i, x) => (i, a.eval x))).run P w = .ok u w' ∧ Stp w f G s.h w' f' G h' ∧ Inv w' f' G h' ∧ VR w' f' G v u := by
  unfold opBuildSlice at h
  split at h
  case h_2 => cases h
  rename_i ti l ht hl
  obtain ⟨d, hd, hdd, hu⟩ := (hc.ty _ _ ht).und w
  split at h
  case h_2 => cases h
  rename_i e htd
  rw [htd] at hdd
  have := td_slice hdd; subst this
  split at h
  case h_2 => cases h
  rename_i te hte
  split at h
  case h_2 => cases h
  rename_i z hz
  split at h
  case isFalse => cases h
  rename_i hcond
  obtain ⟨c1, c2, c3⟩ := hcond
  split at h
  case h_2 => cases h
  rename_i rows hrows
  cases h
  have hp := parts_ok ha hl
  obtain ⟨info, hti, hbytes, hinfo, _, hsize⟩ := (hc.ty _ _ hte).bytes w
  obtain ⟨zu, info', hzv, hinfo', hzz, z1, z2, z3⟩ := zeroCl_ok (P := P) (w := w) (f := f) (G := G) hc hz
  rw [hinfo] at hinfo'; cases hinfo'
  obtain ⟨c', e1, e2, e3, e4⟩ := fillRow_ok hp (by rw [← c2]; exact zrows_ok (n := n) z1 z2 z3) (by rw [← c2]; exact zrows_size) hrows
  rw [List.length_replicate] at e3
  have := newRow_ok i (rows := rows) (z := te.size) (c' := c') e e4
  refine ⟨.slice (some ⟨w.heap.size, 0, none⟩) n n, w.alloc (.cells c' e), _, ?_, this.1, this.2, ?_⟩
  · by_cases hn : n = 0
    · subst hn
      rw [Nat.zero_mul, r0] at e1
      have e1' : Instr.fill (fun i => some (i * info.size, info.size)) #[] (ps.toList.map fun x => (x.1, a.eval x.2)) = some c' := by
        rw [hsize]; simpa using e1
      simp [Instr.buildSlice, hd, (hc.ty _ _ hte).sizeOf w, newRow, r0, ← hsize, e1']
    · refine run_buildSlice w t e n _ c' info zu hu hinfo hzz (by rw [hsize]; omega) ?_ ?_
      · rw [hsize]
        intro h0
        rcases Nat.mul_eq_zero.1 h0 with h1 | h1 <;> omega
      · rw [hsize, Array.toList_map, ← c2]
        rw [← c2] at e1
        exact e1
  · simp only [VR]
    exact ⟨w.heap.size, 0, n, _, by simp [fset], rfl, fun _ => by simp, Nat.le_refl _, by simp, _, _, _, heap_alloc_new w _, by simp [e2, e3, c2]⟩
theorem opTypeAssert_ok (hc : TyOk P cx) {s : St} {a : Act} (ha : ActR w f G s.tm a) {t u0 : Nat} {x : Operand} {v : V} {ok : Bool} {h' : Hp} (h : opTypeAssert cx s x t ok = some (v, h')) :
    ∃ u, (Instr.typeAssert (a.eval x) u0 t ok).run P w = .ok u w ∧ VR w f G v u ∧ h' = s.h := by
  unfold opTypeAssert at h
  split at h
  case h_2 => cases h
  rename_i x' ti hxe ht
  have hx := ev_ok ha hxe
  obtain ⟨d, hd, hdd, hu⟩ := (hc.ty _ _ ht).und w
  split at h
  · cases h
  · rename_i t' v' hne
    simp only [VR] at hx
    obtain ⟨u, hxu, hv⟩ := hx
    rw [hxu]
    have hdn : ∀ ms, d ≠ .interface ms := by
      rintro ms rfl
      exact hne (by rw [← hdd]; rfl)
    split at h
    · rename_i htt
      subst htt
      cases h
      refine ⟨if ok then .tuple #[u, .bool true] else u, ?_, ?_, rfl⟩
      · simp only [Instr.typeAssert, Sem.run_bind, hd, Result.andThen_ok]
        cases d <;> simp at hdn ⊢
      · cases ok
        · exact hv
        · simp only [if_true, VR]
          exact ⟨_, rfl, rfl, by simp [VRs, VR, hv]⟩
    · rename_i htt
      split at h
      · rename_i hok
        subst hok
        split at h
        · rename_i z hz
          cases h
          obtain ⟨zu, hz1, hz2⟩ := (hc.ty _ _ ht).zero hz w
          have hzv := ofConst_ok (w := w) (f := f) (G := G) hz2
          refine ⟨.tuple #[zu, .bool false], ?_, ?_, rfl⟩
          · simp only [Instr.typeAssert, Sem.run_bind, hd, Result.andThen_ok]
            cases d <;> simp at hdn <;> simp [htt, hz1]
          · simp only [VR]
            exact ⟨_, rfl, rfl, by simp [VRs, VR, hzv]⟩
        · cases h
      · cases h
  · cases h
end Go.Ev
end

section
set_option linter.unusedVariables false
set_option linter.unusedSimpArgs false
namespace Go.Ev
variable {P : Program} {cx : Cx} {w : World} {f : FM} {G : GM} {h : Hp}
theorem OpR.of {w : World} {f : FM} {G : GM} {h h' : Hp} {S : Sem Value} {v : V}
    (hs : ∃ u w' f', S.run P w = .ok u w' ∧ Stp w f G h w' f' G h' ∧ Inv w' f' G h' ∧ VR w' f' G v u) : OpR w f G h ((do pure (.value (← S)) : Sem Next).run P w) v h' := by
  obtain ⟨u, w', f', h1, h2, h3, h4⟩ := hs
  exact ⟨u, w', f', .inl (by simp [h1]), h2, h3, h4⟩
theorem OpR.of1 (i : Inv w f G h) {S : Sem Value} {v : V} (hs : ∃ u, S.run P w = .ok u w ∧ VR w f G v u) : OpR w f G h ((do pure (.value (← S)) : Sem Next).run P w) v h := by
  obtain ⟨u, h1, h2⟩ := hs
  exact OpR.of ⟨u, w, f, h1, Stp.refl .., i, h2⟩
theorem OpR.ofu {w : World} {f : FM} {G : GM} {h h' : Hp} {S : Sem Unit}
    (hs : ∃ w', S.run P w = .ok () w' ∧ Stp w f G h w' f G h' ∧ Inv w' f G h') : OpR w f G h ((do S; pure .skip : Sem Next).run P w) .und h' := by
  obtain ⟨w', h1, h2, h3⟩ := hs
  exact ⟨undef, w', f, .inr ⟨by simp [h1], rfl⟩, h2, h3, VR.und⟩
theorem evs_arr {tm : List V} {a : Act} (ha : ActR w f G tm a) {os : Array Operand} {vs : List V} (h : evs tm os.toList = some vs) : (os.map a.eval).size = vs.length ∧ VRs w f G vs (fun i => (os.map a.eval)[i]?) := by
  obtain ⟨h1, h2⟩ := evs_ok ha h
  refine ⟨by simp [h2], ?_⟩
  have : (fun i : Nat => (os.map a.eval)[i]?) = fun i : Nat => (os.toList.map a.eval)[i]? := by
    funext i; simp
  rw [this]; exact h1
theorem opP_ok (hc : TyOk P cx) {s : St} {a : Act} (i : Inv w f G s.h) (ha : ActR w f G s.tm a) {o : Oper} {v : V} {h' : Hp} (h : opP cx s o.op = some (v, h')) : OpR w f G s.h ((execOp a.eval o).run P w) v h' := by
  unfold execOp
  cases ho : o.op with
  | move x =>
    rw [ho] at h
    obtain ⟨h1, rfl⟩ := keep_some (show keep s.h (ev s.tm x) = _ from h)
    exact OpR.same i rfl (ev_ok ha h1)
  | assign x =>
    rw [ho] at h
    obtain ⟨h1, rfl⟩ := keep_some (show keep s.h (ev s.tm x) = _ from h)
    exact OpR.same i rfl (ev_ok ha h1)
  | pick c x y =>
    rw [ho] at h
    simp only [opP, opPick] at h
    split at h
    case h_2 => cases h
    rename_i b hb
    obtain ⟨h1, rfl⟩ := keep_some h
    have hb' := ev_ok ha hb
    simp only [VR] at hb'
    refine OpR.same (x := if b then a.eval x else a.eval y) i (by simp [hb', asBool]) ?_
    cases b
    · exact ev_ok ha (by simpa using h1)
    · exact ev_ok ha (by simpa using h1)
  | alloc e =>
    rw [ho] at h
    simp only [opP, opAlloc] at h
    split at h
    case h_2 => cases h
    rename_i z hz
    cases h
    obtain ⟨u, info, h1, h2, h3, h4, h5, h6⟩ := zeroCl_ok (P := P) (w := w) (f := f) (G := G) hc hz
    have := var_ok i e h5 h4 h6
    exact OpR.of ⟨_, _, _, by simp [Instr.alloc, h1, newVar, newRow], this.1, this.2.1, this.2.2⟩
  | box e x =>
    rw [ho] at h
    simp only [opP, opBox] at h
    split at h
    case h_2 => cases h
    rename_i v0 hv
    split at h
    case h_2 => cases h
    rename_i cs hcs
    cases h
    obtain ⟨h4, h5, h6⟩ := cl_ok (ev_ok ha hv) hcs
    have := var_ok i e h5 h4 h6
    exact OpR.of ⟨_, _, _, by simp [Instr.box, newVar, newRow], this.1, this.2.1, this.2.2⟩
  | build t ps =>
    rw [ho] at h
    simp only [opP, opBuild] at h
    split at h
    case h_2 => cases h
    rename_i l hl
    obtain ⟨h1, rfl⟩ := keep_some h
    have hp := parts_ok ha hl
    exact OpR.of1 i (buildV_ok hc (r := ps.map fun (i, x) => (i, a.eval x)) (by simpa using hp) h1)
  | buildSlice t n ps =>
    rw [ho] at h
    exact OpR.of (opBuildSlice_ok hc i ha h)
  | load t p =>
    rw [ho] at h
    simp only [opP, opLoad] at h
    split at h
    case h_2 => cases h
    rename_i v0 hv
    obtain ⟨h1, rfl⟩ := keep_some h
    exact OpR.of1 i (loadAt_ok hc i (ev_ok ha hv) h1)
  | store t p x =>
    rw [ho] at h
    simp only [opP, opStore] at h
    split at h
    case h_2 => cases h
    rename_i v0 v1 hv hv1
    split at h
    case h_2 => cases h
    rename_i h2 hs
    cases h
    exact OpR.ofu (storeAt_ok hc i (ev_ok ha hv) (ev_ok ha hv1) hs)
  | nilCheck x =>
    rw [ho] at h
    simp only [opP, opNilCheck] at h
    split at h
    · rename_i b r j hv
      cases h
      have hx := ev_ok ha hv
      have hx0 := hx
      simp only [VR] at hx
      obtain ⟨k, s', z, _, e⟩ := hx
      exact OpR.same (x := a.eval x) i (by simp [e]) hx0
    · rename_i b r j hv
      cases h
      have hx := ev_ok ha hv
      have hx0 := hx
      simp only [VR] at hx
      obtain ⟨k, s', _, _, _, _, e, _⟩ := hx
      exact OpR.same (x := a.eval x) i (by simp [e]) hx0
    · cases h
  | binOp op t x y sg =>
    rw [ho] at h
    simp only [opP, opBin] at h
    split at h
    case h_2 => cases h
    rename_i v0 v1 hv hv1
    obtain ⟨h1, rfl⟩ := keep_some h
    exact OpR.of1 i (binV_ok hc x y (ev_ok ha hv) (ev_ok ha hv1) h1)
  | unOp op t x =>
    rw [ho] at h
    simp only [opP, opUn] at h
    split at h
    case h_2 => cases h
    rename_i v0 hv
    obtain ⟨h1, rfl⟩ := keep_some h
    exact OpR.of1 i (unV_ok (ev_ok ha hv) h1)
  | convert src dst x =>
    rw [ho] at h
    simp only [opP, opConv] at h
    split at h
    case h_2 => cases h
    rename_i v0 hv
    exact OpR.of (conv_ok hc i (ev_ok ha hv) h)
  | makeInterface t x =>
    rw [ho] at h
    simp only [opP, opMkIface] at h
    split at h
    case h_2 => cases h
    rename_i ti v0 ht hv
    obtain ⟨d, hd, hdd, hu⟩ := (hc.ty _ _ ht).und w
    split at h
    · cases h
    · rename_i hni
      cases h
      refine OpR.of1 i ⟨.iface t (a.eval x), ?_, ?_⟩
      · simp only [Instr.makeInterface, Sem.run_bind, hd, Result.andThen_ok]
        cases d <;> first | rfl | exact absurd (by rw [← hdd]; rfl) hni
      · simp only [VR]
        exact ⟨_, rfl, ev_ok ha hv⟩
  | makeFunc fn first cap =>
    rw [ho] at h
    simp only [opP, opMkFunc] at h
    split at h
    case h_2 => cases h
    rename_i l1 l2 h1 h2
    cases h
    obtain ⟨e1, e2⟩ := evs_arr ha h1
    obtain ⟨e3, e4⟩ := evs_arr ha h2
    refine OpR.of1 i ⟨_, rfl, ?_⟩
    simp only [VR]
    exact ⟨_, _, rfl, e1, e3, e2, e4⟩
  | makeMap t r =>
    rw [ho] at h
    cases r with
    | some r => simp [opP] at h
    | none =>
      simp only [opP, opMkMap, Option.some.injEq, Prod.mk.injEq] at h
      obtain ⟨rfl, rfl⟩ := h
      have := add_ok i (.map #[] 0) (.map []) 0 0 (fun f' hf hG => ⟨#[], 0, heap_alloc_new w _, trivial⟩)
      refine OpR.of ⟨.map (some w.heap.size), _, _, by simp [Instr.makeMap], this.1, this.2, ?_⟩
      simp only [VR]
      exact ⟨w.heap.size, 0, 0, by simp [fset], rfl⟩
  | makeSlice t l c =>
    rw [ho] at h
    exact OpR.of (opMkSlice_ok hc i ha h)
  | slice t x lo hi mx =>
    rw [ho] at h
    simp only [opP, opSlice] at h
    split at h
    case h_2 => cases h
    rename_i v0 l1 l2 l3 hv h1 h2 h3
    obtain ⟨h1', rfl⟩ := keep_some h
    exact OpR.of1 i (sliceV_ok hc (ev_ok ha hv) (optEv_ok ha h1) (optEv_ok ha h2) (optEv_ok ha h3) h1')
  | fieldAddr t x n =>
    rw [ho] at h
    simp only [opP, opFieldAddr] at h
    split at h
    case h_2 => cases h
    rename_i v0 hv
    obtain ⟨h1', rfl⟩ := keep_some h
    exact OpR.of1 i (addrField_ok hc (ev_ok ha hv) h1')
  | field t x n =>
    rw [ho] at h
    simp only [opP, opField] at h
    split at h
    case h_2 => cases h
    rename_i v0 hv
    obtain ⟨h1', rfl⟩ := keep_some h
    exact OpR.of1 i (fieldV_ok hc (ev_ok ha hv) h1')
  | indexAddr t x n =>
    rw [ho] at h
    simp only [opP, opIndexAddr] at h
    split at h
    case h_2 => cases h
    rename_i v0 v1 hv hv1
    obtain ⟨h1', rfl⟩ := keep_some h
    exact OpR.of1 i (addrIndex_ok hc (ev_ok ha hv) (ev_ok ha hv1) h1')
  | index t x n =>
    rw [ho] at h
    simp only [opP, opIndex] at h
    split at h
    case h_2 => cases h
    rename_i v0 v1 hv hv1
    obtain ⟨h1', rfl⟩ := keep_some h
    exact OpR.of1 i (indexV_ok hc (ev_ok ha hv) (ev_ok ha hv1) h1')
  | lookup t x n ok =>
    rw [ho] at h
    simp only [opP, opLookup] at h
    split at h
    case h_2 => cases h
    rename_i v0 v1 hv hv1
    obtain ⟨h1', rfl⟩ := keep_some h
    exact OpR.of1 i (lookV_ok hc i (ev_ok ha hv) (ev_ok ha hv1) h1')
  | mapUpdate t m k x =>
    rw [ho] at h
    simp only [opP, opMapUpdate] at h
    split at h
    case h_2 => cases h
    rename_i b v1 v2 ti hm hk hx ht
    split at h
    case h_2 => cases h
    rename_i es kt e hg htd
    split at h
    case h_2 => cases h
    rename_i kk hkk
    split at h
    case h_2 => cases h
    rename_i es' hs
    cases h
    exact OpR.ofu (mapUpdate_ok hc i ht htd hkk (ev_ok ha hm) (ev_ok ha hk) (ev_ok ha hx) hg hs)
  | typeAssert x xt t ok =>
    rw [ho] at h
    obtain ⟨u, h1, h2, rfl⟩ := opTypeAssert_ok (u0 := xt) hc ha (show opTypeAssert cx s x t ok = _ from h)
    exact OpR.of1 i ⟨u, h1, h2⟩
  | extract t n =>
    rw [ho] at h
    simp only [opP, opExtract] at h
    split at h
    case h_2 => cases h
    rename_i vs hv
    obtain ⟨h1', rfl⟩ := keep_some h
    have hx := ev_ok ha hv
    simp only [VR] at hx
    obtain ⟨c', e, _, hx⟩ := hx
    obtain ⟨u, hu, hr⟩ := VRs_iff.1 hx n v h1'
    exact OpR.of1 i ⟨u, by simp [e, Instr.extract, hu], hr⟩
  | _ => rw [ho] at h; simp [opP] at h
end Go.Ev
end

section
set_option linter.unusedVariables false
set_option linter.unusedSimpArgs false
namespace Go.Ev
variable {P : Program} {cx : Cx} {w : World} {f : FM} {G : GM} {h : Hp}
/-! ### A new block over a block of memory that was there -/
theorem remap_ok (i : Inv w f G h) {b k s0 z0 : Nat} (hb : f b = some (k, s0, z0)) (hlow : h.low ≤ b) (hd : ∀ c s z, f c = some (k, s, z) → ¬ live h c) (s z : Nat) (o : Ob) (ho : ∀ f', FLe f f' → OR w f' G k s z o) :
    Stp w f G h w (fset f h.next (k, s, z)) G (h.add o) ∧ Inv w (fset f h.next (k, s, z)) G (h.add o) := by
  have hk := (i.rng b k s0 z0 hb).1
  have hkG := (i.rng b k s0 z0 hb).2
  refine ⟨⟨rfl, rfl, rfl, Nat.le_refl _, fset_le i _, fun c k' s' z' e e0 => ?_, GLe.refl _, fun _ _ h => .inl h, by simp, by simp, fun c hc _ => ?_, fun k' hk' _ => rfl, SKept.refl w⟩, ⟨fun c y e => ?_, fun c k' s' z' e => ?_, fun c c' k' s1 z1 s2 z2 e e' hne => ?_, i.gin, i.gup, fun c k' s' z' o2 e hg => ?_⟩⟩
  · simp only [fset] at e
    by_cases c1 : c = h.next
    · rw [if_pos c1] at e
      simp only [Option.some.injEq, Prod.mk.injEq] at e
      obtain ⟨rfl, rfl, rfl⟩ := e
      exact ⟨by omega, .inr ⟨b, s0, z0, hb, by simpa using hlow⟩⟩
    · rw [if_neg c1, e0] at e; cases e
  · rw [Hp.get_add, if_neg (by omega)]
  · simp only [fset] at e
    by_cases c1 : c = h.next
    · simp; omega
    · rw [if_neg c1] at e; have := i.dom c y e; simp; omega
  · simp only [fset] at e
    by_cases c1 : c = h.next
    · rw [if_pos c1] at e
      simp only [Option.some.injEq, Prod.mk.injEq] at e
      obtain ⟨rfl, rfl, rfl⟩ := e
      exact ⟨hk, hkG⟩
    · rw [if_neg c1] at e; exact i.rng c k' s' z' e
  · simp only [fset] at e e'
    rintro ⟨l1, l2⟩
    by_cases c1 : c = h.next
    · rw [if_pos c1] at e
      simp only [Option.some.injEq, Prod.mk.injEq] at e
      obtain ⟨rfl, rfl, rfl⟩ := e
      rw [if_neg (by omega)] at e'
      exact hd _ _ _ e' ((live_add h l2).resolve_left (by omega))
    · rw [if_neg c1] at e
      by_cases c2 : c' = h.next
      · rw [if_pos c2] at e'
        simp only [Option.some.injEq, Prod.mk.injEq] at e'
        obtain ⟨rfl, rfl, rfl⟩ := e'
        exact hd _ _ _ e ((live_add h l1).resolve_left c1)
      · rw [if_neg c2] at e'
        exact i.inj c c' k' s1 z1 s2 z2 e e' hne ⟨(live_add h l1).resolve_left c1, (live_add h l2).resolve_left c2⟩
  · simp only [fset] at e
    rw [Hp.get_add] at hg
    by_cases c1 : c = h.next
    · rw [if_pos c1] at e hg
      simp only [Option.some.injEq, Prod.mk.injEq] at e hg
      obtain ⟨rfl, rfl, rfl⟩ := e
      subst hg
      exact ho _ (fset_le i _)
    · rw [if_neg c1] at e hg
      exact OR.mono (fset_le i _) (GLe.refl _) (GKept.refl _ _) rfl (i.rel c k' s' z' o2 e hg)
/-- A live block's memory is written anew, and a new block stands for it. -/
theorem readd_ok (i : Inv w f G h) {b k s0 z0 : Nat} (hb : f b = some (k, s0, z0)) (hl : live h b) (o' : Obj) (o : Ob) (s z : Nat) (hsz : ∀ cc e fr, w.heap[k]? = some (.cells cc e fr) → ∃ cc' e' fr', o' = .cells cc' e' fr' ∧ cc'.size = cc.size)
    (ho : ∀ f', FLe f f' → GKept G w (setBlk w k o') → OR (setBlk w k o') f' G k s z o) :
    Stp w f G h (setBlk w k o') (fset f h.next (k, s, z)) G ((h.put b .dead).add o) ∧ Inv (setBlk w k o') (fset f h.next (k, s, z)) G ((h.put b .dead).add o) := by
  have h1 := put_ok i hb hl o' .dead hsz (fun _ => trivial)
  have hd : ∀ c s z, f c = some (k, s, z) → ¬ live (h.put b .dead) c := by
    rintro c s z e ⟨o2, g1, g2⟩
    rw [Hp.get_put] at g1
    by_cases cb : c = b
    · rw [if_pos cb] at g1; cases g1; simp at g2
    · rw [if_neg cb] at g1
      exact i.inj c b k s z s0 z0 e hb cb ⟨⟨o2, g1, g2⟩, hl⟩
  have h2 := remap_ok h1.2 hb (by simp; omega) hd s z o (fun f' hf => ho f' hf (h1.1.gkept i))
  exact ⟨h1.1.trans h2.1, h2.2⟩
/-! ### The cells of a row -/
theorem VRr_cells {z : Nat} {rows : List (List V)} {g : Nat → Option Value} (hr : VRr w f G z rows g) : ∀ q, q < rows.length * z → ∃ u, g q = some u ∧ u.oneCell' = true := by
  intro q hq
  have hz : 0 < z := by
    rcases Nat.eq_zero_or_pos z with h0 | h0
    · subst h0; simp at hq
    · exact h0
  have hi : q / z < rows.length := Nat.div_lt_of_lt_mul (by rw [Nat.mul_comm]; exact hq)
  obtain ⟨r1, r2, r3⟩ := VRr_iff.1 hr (q / z) rows[q / z] (by simp [hi])
  have hm : q % z < (rows[q / z]).length := by rw [r1]; exact Nat.mod_lt _ hz
  obtain ⟨u, hu, hv⟩ := VRs_iff.1 r3 (q % z) (rows[q / z])[q % z] (by simp [hm])
  refine ⟨u, ?_, one_ok hv (r2 _ (List.getElem_mem _))⟩
  rw [← hu]; congr 1
  have := Nat.div_add_mod q z
  rw [Nat.mul_comm] at this; omega
/-- a row's cells as a list -/
theorem row_list {z : Nat} {rows : List (List V)} {g : Nat → Option Value} (hr : VRr w f G z rows g) :
    ∃ l : List Value, l.length = rows.length * z ∧ (∀ j, j < rows.length * z → l[j]? = g j) ∧ (∀ u ∈ l, u.oneCell' = true) ∧ VRr w f G z rows (fun j => l[j]?) := by
  have hc := VRr_cells hr
  have hg : ∀ j, j < rows.length * z → ((List.range (rows.length * z)).map fun j => (g j).getD undef)[j]? = g j := fun j hj => by
    obtain ⟨u, hu, _⟩ := hc j hj
    simp [hj, hu]
  refine ⟨(List.range (rows.length * z)).map fun j => (g j).getD undef, by simp, hg, fun u hu => ?_, VRr_iff.2 fun m r hm => ?_⟩
  · simp only [List.mem_map, List.mem_range] at hu
    obtain ⟨j, hj, rfl⟩ := hu
    obtain ⟨u, hu, h1⟩ := hc j hj
    rw [hu]; exact h1
  · obtain ⟨r1, r2, r3⟩ := VRr_iff.1 hr m r hm
    refine ⟨r1, r2, VRs_iff.2 fun j v hj => ?_⟩
    obtain ⟨u, hu, hv⟩ := VRs_iff.1 r3 j v hj
    refine ⟨u, ?_, hv⟩
    have hlt := (List.getElem?_eq_some_iff.1 hm).1
    have hjl := (List.getElem?_eq_some_iff.1 hj).1
    have h2 := row_end (z := z) hlt
    rw [hg _ (by omega), hu]
theorem VRr_append {z : Nat} {r1 r2 : List (List V)} {l1 l2 : List Value} {g : Nat → Option Value} (h1 : VRr w f G z r1 (fun j => l1[j]?)) (h2 : VRr w f G z r2 (fun j => l2[j]?)) (e1 : l1.length = r1.length * z) (e2 : l2.length = r2.length * z)
    (hg : ∀ j, j < l1.length + l2.length → g j = (l1 ++ l2)[j]?) : VRr w f G z (r1 ++ r2) g := by
  refine VRr_iff.2 fun m r hm => ?_
  by_cases c : m < r1.length
  · rw [List.getElem?_append_left c] at hm
    obtain ⟨a1, a2, a3⟩ := VRr_iff.1 h1 m r hm
    refine ⟨a1, a2, VRs_iff.2 fun j v hj => ?_⟩
    obtain ⟨u, hu, hv⟩ := VRs_iff.1 a3 j v hj
    refine ⟨u, ?_, hv⟩
    have hjl := (List.getElem?_eq_some_iff.1 hj).1
    have := row_end (z := z) c
    rw [hg _ (by omega), List.getElem?_append_left (by omega)]
    exact hu
  · rw [List.getElem?_append_right (by omega)] at hm
    obtain ⟨a1, a2, a3⟩ := VRr_iff.1 h2 _ r hm
    refine ⟨a1, a2, VRs_iff.2 fun j v hj => ?_⟩
    obtain ⟨u, hu, hv⟩ := VRs_iff.1 a3 j v hj
    refine ⟨u, ?_, hv⟩
    have hjl := (List.getElem?_eq_some_iff.1 hj).1
    have hml := (List.getElem?_eq_some_iff.1 hm).1
    have := row_end (z := z) hml
    have e9 : m * z = r1.length * z + (m - r1.length) * z := by rw [← Nat.add_mul]; congr 1; omega
    rw [hg _ (by omega), List.getElem?_append_right (by omega), ← hu]
    congr 1; omega
/-- What is appended, and what is appended to: its length, its cells. -/
def Src (P : Program) (z n : Nat) (x : Value) (l : List Value) (w : World) : Prop := (Builtin.lenOf x).run P w = .ok n w ∧ (Builtin.firstCells z n x).run P w = .ok l.toArray w
theorem src_slice (i : Inv w f G h) {z : Nat} {x : V} {u : Value} {rows : List (List V)} (hx : VR w f G x u) (hr : rowOf h z x = some rows) :
    ∃ a c l, u = .slice a rows.length c ∧ rows.length ≤ c ∧ l.length = rows.length * z ∧ (∀ u ∈ l, u.oneCell' = true) ∧ VRr w f G z rows (fun j => l[j]?) ∧ (∀ w' : World, w'.heap = w.heap → Src P z rows.length u l w') ∧
      (rows ≠ [] → ∃ k o cc e fr, a = some ⟨k, o, none⟩ ∧ w.heap[k]? = some (.cells cc e fr) ∧ ∀ j, j < rows.length * z → l[j]? = cc[o + j]?) := by
  obtain ⟨a, c, rfl, hc, hne⟩ := rowOf_ok i hx hr
  by_cases hn : rows = []
  · subst hn
    refine ⟨a, c, [], rfl, hc, by simp, by simp, by simp [VRr], fun w' _ => ⟨by simp [Builtin.lenOf], ?_⟩, fun h => absurd rfl h⟩
    cases a with
    | none => simp [Builtin.firstCells]
    | some a => exact run_firstCells_some w' z 0 a _ _ [] (by simp) (by simp)
  · obtain ⟨k, o, cc, e, fr, rfl, hb, hrow⟩ := hne hn
    obtain ⟨l, l1, l2, l3, l4⟩ := row_list hrow
    refine ⟨_, c, l, rfl, hc, l1, l3, l4, fun w' hw => ⟨by simp [Builtin.lenOf], ?_⟩, fun _ => ⟨k, o, cc, e, fr, rfl, hb, l2⟩⟩
    refine run_firstCells_some w' z rows.length ⟨k, o, none⟩ _ _ l l1 fun j v hj => ?_
    have hjl := (List.getElem?_eq_some_iff.1 hj).1
    rw [add_none, cell_of_row w' k (o + j) cc e fr (by rw [hw]; exact hb), ← l2 j (by omega), hj]
theorem src_str {s : ByteArray} : ∃ l : List Value, l.length = (strRows s).length * 1 ∧ (∀ u ∈ l, u.oneCell' = true) ∧ VRr w f G 1 (strRows s) (fun j => l[j]?) ∧ (∀ w' : World, Src P 1 (strRows s).length (.string s) l w') := by
  have hlen : (strRows s).length = s.size := by simp [strRows]
  refine ⟨s.data.toList.map fun b => .int .u8 b.toNat, by simp [strRows], fun u hu => ?_, VRr_iff.2 fun q r hq => ?_, fun w' => ⟨by simp [Builtin.lenOf, hlen], ?_⟩⟩
  · simp only [List.mem_map] at hu
    obtain ⟨b, _, rfl⟩ := hu
    rfl
  · simp only [strRows, List.getElem?_map, Option.map_eq_some_iff] at hq
    obtain ⟨b, hb, rfl⟩ := hq
    refine ⟨rfl, by simp [ones, V.one], ?_⟩
    simp only [VRs, VR]
    refine ⟨⟨.int .u8 b.toNat, ?_, rfl⟩, trivial⟩
    simp [hb]
  · have hx : (Array.map (fun b : UInt8 => Value.int IntKind.u8 (b.toNat : Int)) s.data).extract 0 s.size = Array.map (fun b : UInt8 => Value.int IntKind.u8 (b.toNat : Int)) s.data := by
      have hs : s.size = (Array.map (fun b : UInt8 => Value.int IntKind.u8 (b.toNat : Int)) s.data).size := by rw [Array.size_map]; rfl
      rw [hs, Array.extract_size]
    simp only [Builtin.firstCells, hlen, hx, Sem.run_pure]
    congr 1
    apply Array.ext'
    simp
end Go.Ev
end

section
set_option linter.unusedVariables false
set_option linter.unusedSimpArgs false
namespace Go.Ev
variable {P : Program} {cx : Cx} {w : World} {f : FM} {G : GM} {h : Hp}
theorem append_room {t u ty e z sLen sCap n : Nat} {d : TypeDesc} (ht : P.underlying t = some (.slice e)) (hu : P.underlying u = some d) (hd : ∀ k, d ≠ .int k) (hs : (Go.sizeOf e).run P w = .ok z w) (base : Option Addr) (x : Value) (l : List Value)
    (hx : Src P z n x l w) (hroom : sLen + n ≤ sCap) (w' : World) (hst : ∀ a, base = some a → (storeCells (a.add (sLen * z)) l).run P w = .ok () w') (hn : base = none → w' = w) :
    (Builtin.append_ #[t, u] ty #[.slice base sLen sCap, x]).run P w = .ok (.slice base (sLen + n) sCap) w' := by
  obtain ⟨h1, h2⟩ := hx
  have hz : (match d with | .int _ => true | _ => false) = false := by cases d <;> first | rfl | exact absurd rfl (hd _)
  cases base with
  | none =>
    rw [hn rfl]
    simp [Builtin.append_, run_underlying ht, run_underlying hu, hs, hz, h1, h2, hroom]
  | some a =>
    have := hst a rfl
    simp [Builtin.append_, run_underlying ht, run_underlying hu, hs, hz, h1, h2, hroom, this]
theorem append_grow {t u ty e z sLen sCap n : Nat} {d : TypeDesc} {info : TypeInfo} {zv : Value} (ht : P.underlying t = some (.slice e)) (hu : P.underlying u = some d) (hd : ∀ k, d ≠ .int k) (hi : P.info? e = some info) (hsz : info.size = z) (hz : info.zero = some zv)
    (base : Option Addr) (x : Value) (ol l : List Value) (ho : Src P z sLen (.slice base sLen sCap) ol w.drew) (hx : Src P z n x l w.drew) (hx0 : Src P z n x l w) (hc : sLen ≤ sCap)
    (hg : sCap < sLen + n) (h63 : sLen + n ≤ 2 ^ 46) (hb : 0 < info.bytes) (hfit : (sLen + n) * info.bytes ≤ 2 ^ 46) :
    (Builtin.append_ #[t, u] ty #[.slice base sLen sCap, x]).run P w = .ok (.slice (some ⟨w.heap.size, 0, none⟩) (sLen + n) (grownCap w (sLen + n) sCap e))
      (w.drew.alloc (.cells (ol.toArray ++ l.toArray ++ Builtin.zeroCells zv.cells (grownCap w (sLen + n) sCap e - (sLen + n))) e)) := by
  have hzz : (match d with | .int _ => true | _ => false) = false := by cases d <;> first | rfl | exact absurd rfl (hd _)
  have hnr : ¬ (sLen + n ≤ sCap) := by omega
  have p46 : (2 : Nat) ^ 46 = 70368744177664 := by decide
  have h48 := growslice_fits (need := sLen + n) (old := sCap) (bytes := info.bytes) hg (by omega)
  have h48' : ¬ (281474976710656 < Builtin.nextslicecap (sLen + n) sCap * info.bytes) := by omega
  have h63' : ¬ (9223372036854775807 < ((sLen : Int) + (n : Int))) := by omega
  have hb0 : ¬ (info.bytes = 0) := by omega
  obtain ⟨h1, _⟩ := hx0
  obtain ⟨_, h2⟩ := hx
  obtain ⟨_, h3⟩ := ho
  subst hsz
  have hsz : (Go.sizeOf e).run P w = .ok info.size w := by simp [Go.sizeOf, typeInfo, hi]
  simp [Builtin.append_, run_underlying ht, run_underlying hu, hsz, typeInfo, zeroValue, hi, hz, hzz, h1, h2, h3, hnr, h63', h48', hb0, Question.forced, newRow, grownCap]
  congr 2
  apply Array.ext'
  simp [List.append_assoc]
theorem drew_ok (i : Inv w f G h) : Inv w.drew f G h := i.of_heap rfl
/-- What an append lays anew. -/
theorem grown_ok (i : Inv w f G h) {z n m : Nat} {e : TypeId} {rows : List (List V)} {ol l : List Value} {zc : Array Value} {old new : List (List V)} (hz : zc.size = z) (ho : VRr w f G z old (fun j => ol[j]?)) (hn : VRr w f G z new (fun j => l[j]?))
    (eo : ol.length = old.length * z) (en : l.length = new.length * z) (need : Nat) (hneed : need = old.length + new.length) (cap : Nat) (hcap : need ≤ cap) :
    ∃ f', Stp w f G h (w.drew.alloc (.cells (ol.toArray ++ l.toArray ++ Builtin.zeroCells zc (cap - need)) e)) f' G (h.add (.cells (old ++ new) z)) ∧
      Inv (w.drew.alloc (.cells (ol.toArray ++ l.toArray ++ Builtin.zeroCells zc (cap - need)) e)) f' G (h.add (.cells (old ++ new) z)) ∧
      VR (w.drew.alloc (.cells (ol.toArray ++ l.toArray ++ Builtin.zeroCells zc (cap - need)) e)) f' G (.sl h.next 0 (old ++ new).length z none) (.slice (some ⟨w.heap.size, 0, none⟩) need cap) := by
  have hsz : (ol.toArray ++ l.toArray ++ Builtin.zeroCells zc (cap - need)).size = cap * z := by
    simp only [Array.size_append, List.size_toArray, size_zeroCells, eo, en, hz, ← Nat.add_mul]
    congr 1; omega
  have hrow : VRr w.drew f G z (old ++ new) (fun j => (ol.toArray ++ l.toArray ++ Builtin.zeroCells zc (cap - need))[j]?) := by
    have h1 : VRr w f G z (old ++ new) (fun j => (ol.toArray ++ l.toArray ++ Builtin.zeroCells zc (cap - need))[j]?) := VRr_append ho hn eo en fun j hj => by
      rw [Array.getElem?_append_left (by simpa using hj)]
      simp
    exact VRr.mono (w := w) (w' := w.drew) z _ (FLe.refl _) (GLe.refl _) ⟨fun _ _ _ => rfl, SKept.of_eq fun _ _ => rfl⟩ h1
  have := newRow_ok (drew_ok i) e hrow
  refine ⟨_, (Stp.drew w f G h).trans this.1, this.2, ?_⟩
  simp only [VR]
  exact ⟨w.heap.size, 0, cap, ⟨w.heap.size, 0, none⟩, by simp [fset], by simp [hneed], fun _ => by simp, by simp; omega, by simp, _, _, _, heap_alloc_new w.drew _, by rw [hsz]; simp⟩
theorem append_ok (hc : TyOk P cx) (i : Inv w f G h) {t u ty : Nat} {s x v : V} {s' x' : Value} {h' : Hp} {ui : Ti} (hu : cx.ty u = some ui) (hui : ∀ k, ui.d ≠ .int k) (hs : VR w f G s s') (hx : VR w f G x x') (ha : appendV cx h t s x = some (v, h')) :
    ∃ r w' f', (Builtin.append_ #[t, u] ty #[s', x']).run P w = .ok r w' ∧ Stp w f G h w' f' G h' ∧ Inv w' f' G h' ∧ VR w' f' G v r := by
  obtain ⟨d, _, hdu, hpu⟩ := (hc.ty _ _ hu).und w
  have hd : ∀ k, d ≠ .int k := by
    rintro k rfl
    exact hui k (by rw [← hdu]; rfl)
  unfold appendV at ha
  split at ha
  case h_2 => cases ha
  rename_i ti ht
  obtain ⟨dt, _, hdt, hpt⟩ := (hc.ty _ _ ht).und w
  split at ha
  case h_2 => cases ha
  rename_i e htd
  rw [htd] at hdt
  have := td_slice hdt; subst this
  split at ha
  case h_2 => cases ha
  rename_i te hte
  have hT := hc.ty _ _ hte
  split at ha
  case h_2 => cases ha
  rename_i old new hold hnew
  obtain ⟨a, c, ol, rfl, hlen, eol, o1, o2, o3, o4⟩ := src_slice (P := P) i hs hold
  have hsrc : ∃ l : List Value, l.length = new.length * te.size ∧ (∀ u ∈ l, u.oneCell' = true) ∧ VRr w f G te.size new (fun j => l[j]?) ∧ (∀ w' : World, w'.heap = w.heap → Src P te.size new.length x' l w') := by
    split at hnew
    · rename_i b
      split at hnew
      · rename_i h1
        cases hnew
        simp only [VR] at hx
        subst hx
        rw [h1]
        obtain ⟨l, l1, l2, l3, l4⟩ := src_str (P := P) (w := w) (f := f) (G := G) (s := b)
        exact ⟨l, l1, l2, l3, fun w' _ => l4 w'⟩
      · cases hnew
    · obtain ⟨a, c, l, _, _, l1, l2, l3, l4, _⟩ := src_slice (P := P) i hx hnew
      exact ⟨l, l1, l2, l3, l4⟩
  obtain ⟨l, el, n1, n2, n3⟩ := hsrc
  split at ha
  · rename_i he
    cases ha
    have hn0 : new = [] := by simpa using he
    subst hn0
    have hl0 : l = [] := List.eq_nil_of_length_eq_zero (by simpa using el)
    subst hl0
    refine ⟨_, w, f, append_room hpt hpu hd (hT.sizeOf w) a x' [] (n3 w rfl) (by simpa using hlen) w (fun _ _ => by simp [storeCells]) (fun _ => rfl), Stp.refl .., i, by simpa using hs⟩
  · rename_i hne
    split at ha
    case isFalse => cases ha
    rename_i hcond
    obtain ⟨c1, c2, c3, c4, c5⟩ := hcond
    have hnn : 0 < new.length := by
      rcases Nat.eq_zero_or_pos new.length with h0 | h0
      · exact absurd (by simpa using h0) hne
      · exact h0
    simp only [Option.map_eq_some_iff] at c5
    obtain ⟨zc, hzc, hzl⟩ := c5
    obtain ⟨zu, info, _, hinfo, hzz, z1, _, _⟩ := zeroCl_ok (P := P) (w := w) (f := f) (G := G) hc hzc
    obtain ⟨info', _, hbytes, hinfo', _, hsize⟩ := hT.bytes w
    rw [hinfo] at hinfo'; cases hinfo'
    have grown : ∀ (hk : Hp) (ik : Inv w f G hk) (sk : Stp w f G h w f G hk), hk.next = h.next → c < old.length + new.length → ∃ r w' f', (Builtin.append_ #[t, u] ty #[.slice a old.length c, x']).run P w = .ok r w' ∧ Stp w f G h w' f' G (hk.add (.cells (old ++ new) te.size)) ∧
        Inv w' f' G (hk.add (.cells (old ++ new) te.size)) ∧ VR w' f' G (.sl h.next 0 (old ++ new).length te.size none) r := by
      intro hk ik sk hnx hlt
      have hrun := append_grow (ty := ty) hpt hpu hd hinfo hsize hzz a x' ol l (o3 w.drew rfl) (n3 w.drew rfl) (n3 w rfl) hlen hlt (by omega) (by omega) (by rw [hbytes]; exact c1)
      obtain ⟨f', g1, g2, g3⟩ := grown_ok ik (z := te.size) (e := e) (zc := zu.cells) (n := 0) (m := 0) (rows := []) (by omega) o2 n2 eol el (old.length + new.length) rfl (grownCap w (old.length + new.length) c e) (grownCap_ge ..)
      rw [hnx] at g3
      exact ⟨_, _, f', hrun, sk.trans g1, g2, g3⟩
    unfold grow at ha
    split at ha
    · cases ha
      have hc0 : c = 0 := by simp only [VR, Value.slice.injEq] at hs; exact hs.2.2
      exact grown h i (Stp.refl ..) rfl (by omega)
    · cases ha
      have hc0 : c = old.length := by
        simp only [VR] at hs
        obtain ⟨a', c', e1, _, e3, _⟩ := hs
        simp only [Value.slice.injEq] at e1
        obtain ⟨_, q1, q2⟩ := e1
        have := e3 trivial
        omega
      exact grown h i (Stp.refl ..) rfl (by omega)
    · rename_i b o nn z' cc0
      have hs0 := hs
      simp only [VR] at hs
      obtain ⟨k, s0, c', a', hf, e1, ha', hn', hcc, cells, ec, fr, hblk, hfit⟩ := hs
      simp only [Value.slice.injEq] at e1
      obtain ⟨rfl, hnn', rfl⟩ := e1
      by_cases hcap : capLt cc0 (old ++ new).length = true
      · rw [if_pos hcap] at ha
        cases ha
        refine grown h i (Stp.refl ..) rfl ?_
        cases cc0 with
        | some c0 =>
          have h1 := hcc c0 rfl
          have h2 : c0 < (old ++ new).length := by simpa [capLt] using hcap
          simp only [List.length_append] at h2
          omega
        | none => cases hcap
      · rw [if_neg hcap] at ha
        cases ha
        by_cases hroom : old.length + new.length ≤ c
        · -- in place
          have hro : ∃ rows0, h.get b = some (.cells rows0 te.size) ∧ z' = te.size := by
            simp only [rowOf] at hold
            split at hold
            · rename_i hz1
              split at hold
              · rename_i rows0 z2 hg
                split at hold
                · rename_i hz2
                  exact ⟨rows0, by rw [hg, hz2], hz1⟩
                · cases hold
              · cases hold
            · cases hold
          obtain ⟨rows0, hg, rfl⟩ := hro
          have hl : live h b := ⟨_, hg, rfl⟩
          obtain ⟨_, cells2, e2, fr2, hb2, hfr, _⟩ := i.rel b k s0 _ _ hf hg
          rw [hblk] at hb2
          simp only [Option.some.injEq, Obj.cells.injEq] at hb2
          obtain ⟨rfl, rfl, rfl⟩ := hb2
          have haddr := ha' (by omega)
          subst haddr
          have hk := (i.rng b k s0 _ hf).1
          have hcz : (old.length + new.length) * te.size ≤ c * te.size := Nat.mul_le_mul_right _ hroom
          rw [Nat.add_mul] at hcz
          obtain ⟨cc', q1, q2, q3⟩ := storeCells_ok (P := P) (k := k) (off := s0 + o * te.size + old.length * te.size) l 0 w cells hblk hfr (by omega) n1
          have hrun := append_room (P := P) (w := w) (ty := ty) hpt hpu hd (hT.sizeOf w) (some ⟨k, s0 + o * te.size, none⟩) x' l (n3 w rfl) hroom (setBlk w k (.cells cc' ec fr)) (fun a ha => by cases ha; rw [add_none]; exact q3) (fun h => by cases h)
          have hold2 : ∀ j, j < old.length * te.size → ol[j]? = cells[s0 + o * te.size + j]? := by
            intro j hj
            have hne0 : old ≠ [] := by rintro rfl; simp at hj
            obtain ⟨k2, o2', cc2, e2, fr2, h1, h2, h3⟩ := o4 hne0
            simp only [Option.some.injEq, Addr.mk.injEq] at h1
            obtain ⟨rfl, rfl, _⟩ := h1
            rw [hblk] at h2
            simp only [Option.some.injEq, Obj.cells.injEq] at h2
            obtain ⟨rfl, rfl, rfl⟩ := h2
            exact h3 j hj
          have hra := readd_ok i hf hl (.cells cc' ec fr) (.cells (old ++ new) te.size) (s0 + o * te.size) te.size (fun ccy ey fry hy => ⟨cc', ec, fr, rfl, by rw [hblk] at hy; simp only [Option.some.injEq, Obj.cells.injEq] at hy; rw [q1, hy.1]⟩)
            (fun f' hf' hG' => ⟨rfl, cc', ec, fr, by rw [setBlk_get _ _ _ _ hk, if_pos rfl], by rw [q1]; exact hfr, VRr_append (VRr.mono _ _ hf' (GLe.refl _) hG' o2) (VRr.mono _ _ hf' (GLe.refl _) hG' n2) eol el fun j hj => by
              rw [q2]
              by_cases cj : j < ol.length
              · rw [if_neg (by omega), List.getElem?_append_left cj, hold2 j (by omega)]
              · rw [if_pos (by omega), List.getElem?_append_right (by omega)]
                congr 1; omega⟩)
          refine ⟨_, _, _, hrun, hra.1, hra.2, ?_⟩
          simp only [VR]
          refine ⟨k, s0 + o * te.size, c, ⟨k, s0 + o * te.size, none⟩, by simp [fset], by simp, fun _ => by simp, by simp; omega, by simp, cc', ec, fr, by rw [setBlk_get _ _ _ _ hk, if_pos rfl], by rw [q1]; simpa using hfit⟩
        · have hkill := kill_ok i b
          exact grown (h.put b .dead) hkill.2 hkill.1 rfl (by omega)
    · cases ha
end Go.Ev
end

section
set_option linter.unusedVariables false
set_option linter.unusedSimpArgs false
namespace Go.Ev
variable {P : Program} {cx : Cx} {w : World} {f : FM} {G : GM} {h : Hp}
theorem maxI_ok {k : IntKind} : ∀ {r : List V} {a n : Int} {us : List Value}, maxI k a r = some n → VRs w f G r (fun i => us[i]?) → us.length = r.length → (us.foldlM Builtin.max2 (.int k a)).run P w = .ok (.int k n) w
  | [], a, n, [], h, _, _ => by simp only [maxI, Option.some.injEq] at h; subst h; simp
  | [], a, n, _ :: _, _, _, hl => by simp at hl
  | _ :: _, a, n, [], _, _, hl => by simp at hl
  | v :: r, a, n, u :: us, h, hv, hl => by
    unfold maxI at h
    split at h
    · rename_i heq; cases heq
    · rename_i k' b r' heq
      cases heq
      split at h
      · rename_i hk
        subst hk
        simp only [VRs] at hv
        obtain ⟨⟨u', e1, e2⟩, e3⟩ := hv
        simp only [List.getElem?_cons_zero, Option.some.injEq] at e1
        subst e1
        simp only [VR] at e2
        subst e2
        have := maxI_ok h (us := us) (by simpa using e3) (by simpa using hl)
        simp only [List.foldlM_cons, Sem.run_bind, Builtin.max2, Sem.run_pure, Result.andThen_ok]
        exact this
      · cases h
    · cases h
theorem minI_ok {k : IntKind} : ∀ {r : List V} {a n : Int} {us : List Value}, minI k a r = some n → VRs w f G r (fun i => us[i]?) → us.length = r.length → (us.foldlM Builtin.min2 (.int k a)).run P w = .ok (.int k n) w
  | [], a, n, [], h, _, _ => by simp only [minI, Option.some.injEq] at h; subst h; simp
  | [], a, n, _ :: _, _, _, hl => by simp at hl
  | _ :: _, a, n, [], _, _, hl => by simp at hl
  | v :: r, a, n, u :: us, h, hv, hl => by
    unfold minI at h
    split at h
    · rename_i heq; cases heq
    · rename_i k' b r' heq
      cases heq
      split at h
      · rename_i hk
        subst hk
        simp only [VRs] at hv
        obtain ⟨⟨u', e1, e2⟩, e3⟩ := hv
        simp only [List.getElem?_cons_zero, Option.some.injEq] at e1
        subst e1
        simp only [VR] at e2
        subst e2
        have := minI_ok h (us := us) (by simpa using e3) (by simpa using hl)
        simp only [List.foldlM_cons, Sem.run_bind, Builtin.min2, Sem.run_pure, Result.andThen_ok]
        exact this
      · cases h
    · cases h
theorem lenV_ok (hc : TyOk P cx) (i : Inv w f G h) {t ty : Nat} {ts : List Nat} {x v : V} {u : Value} (hx : VR w f G x u) (hl : lenV cx h t x = some v) : ∃ r, (Builtin.len_ ⟨t :: ts⟩ ty #[u]).run P w = .ok r w ∧ VR w f G v r := by
  unfold lenV at hl
  split at hl
  case h_2 => cases hl
  rename_i ti ht
  obtain ⟨d, hd, hdd, hu⟩ := (hc.ty _ _ ht).und w
  split at hl
  · rename_i s htd
    rw [htd] at hdd
    have := td_str hdd; subst this
    cases hl
    simp only [VR] at hx; subst hx
    exact ⟨_, by simp [Builtin.len_, hd]; rfl, by simp [VR, goInt]⟩
  · rename_i e htd
    rw [htd] at hdd
    have := td_slice hdd; subst this
    cases hl
    simp only [VR] at hx; subst hx
    exact ⟨_, by simp [Builtin.len_, hd]; rfl, by simp [VR, goInt]⟩
  · rename_i e b o n z c htd
    rw [htd] at hdd
    have := td_slice hdd; subst this
    cases hl
    simp only [VR] at hx
    obtain ⟨_, _, _, _, _, rfl, _⟩ := hx
    exact ⟨_, by simp [Builtin.len_, hd]; rfl, by simp [VR, goInt]⟩
  · rename_i e β z c es htd
    rw [htd] at hdd
    have := td_slice hdd; subst this
    cases hl
    simp only [VR] at hx
    obtain ⟨_, _, rfl, _⟩ := hx
    exact ⟨_, by simp [Builtin.len_, hd]; rfl, by simp [VR, goInt]⟩
  · rename_i k e htd
    rw [htd] at hdd
    have := td_map hdd; subst this
    split at hl
    case h_2 => cases hl
    rename_i es hes
    cases hl
    rcases entries_ok i hx hes with ⟨rfl, rfl⟩ | ⟨b, k, s, z, es', c, _, _, rfl, _, h3, h4⟩
    · exact ⟨_, by simp [Builtin.len_, hd]; rfl, by simp [VR, goInt]⟩
    · have hlen := h4.length
      exact ⟨_, by simp [Builtin.len_, hd, getMap h3]; rfl, by simp [VR, goInt, ← hlen]⟩
  · rename_i n e htd
    rw [htd] at hdd
    have := td_arr hdd; subst this
    cases hl
    exact ⟨_, by simp [Builtin.len_, hd]; rfl, by simp [VR, goInt]⟩
  · cases hl
theorem und_tup : VR w f G V.und (.tuple #[]) := by simp [V.und, VR, VRs]
theorem clear_ok (hc : TyOk P cx) (i : Inv w f G h) {t ty : Nat} {ts : List Nat} {x v : V} {u : Value} {h' : Hp} (hx : VR w f G x u) (hl : clearV cx h t x = some (v, h')) :
    ∃ r w', (Builtin.clear_ ⟨t :: ts⟩ ty #[u]).run P w = .ok r w' ∧ Stp w f G h w' f G h' ∧ Inv w' f G h' ∧ VR w' f G v r := by
  unfold clearV at hl
  split at hl
  case h_2 => cases hl
  rename_i ti ht
  obtain ⟨d, hd, hdd, hu⟩ := (hc.ty _ _ ht).und w
  split at hl
  · rename_i k e htd
    cases hl
    simp only [VR] at hx; subst hx
    exact ⟨.tuple #[], w, by simp [Builtin.clear_, hd], Stp.refl .., i, und_tup⟩
  · rename_i k e b htd
    split at hl
    case h_2 => cases hl
    rename_i es hg
    cases hl
    simp only [VR] at hx
    obtain ⟨kb, s, z, hf, rfl⟩ := hx
    obtain ⟨L, c, h1, h2⟩ := i.rel b kb s z _ hf hg
    have hkb := (i.rng b kb s z hf).1
    have := put_ok i hf ⟨_, hg, rfl⟩ (.map #[] c) (.map []) (fun _ _ _ hy => by rw [h1] at hy; cases hy) (fun hG => ⟨#[], c, by rw [setBlk_get _ _ _ _ hkb, if_pos rfl], trivial⟩)
    refine ⟨.tuple #[], setBlk w kb (.map #[] c), ?_, this.1, this.2, und_tup⟩
    rw [htd] at hdd
    have := td_map hdd; subst this
    simp [Builtin.clear_, hd, getMap h1, setMap _ h1]
  · rename_i e htd
    cases hl
    simp only [VR] at hx; subst hx
    exact ⟨.tuple #[], w, by simp [Builtin.clear_, hd], Stp.refl .., i, und_tup⟩
  · rename_i e b o n z c htd
    rw [htd] at hdd
    have := td_slice hdd; subst this
    split at hl
    case h_2 => cases hl
    rename_i zv rows z' hzv hg
    split at hl
    case isFalse => cases hl
    rename_i hcond
    obtain ⟨rfl, rfl⟩ := hcond
    split at hl
    case h_2 => cases hl
    rename_i rows' hlay
    cases hl
    obtain ⟨q1, q2, q3⟩ := lay_some hlay
    rw [List.length_replicate] at q1 q3
    simp only [VR] at hx
    obtain ⟨k, s, c', a, hf, rfl, ha, hn, _, ccz, ez, frz, hbz, hfitz⟩ := hx
    obtain ⟨zu, info, hz0, _, _, z1, z2, z3⟩ := zeroCl_ok (P := P) (w := w) (f := f) (G := G) hc hzv
    have hk := (i.rng b k s _ hf).1
    obtain ⟨_, cells, ec, fr, hb, hfr, hrow⟩ := i.rel b k s _ _ hf hg
    by_cases hn0 : n = 0
    · subst hn0
      have e0 : rows' = rows := by
        apply List.ext_getElem?
        intro j
        rw [q3, if_neg (by omega)]
      rw [e0]
      have hsame : setBlk w k (.cells cells ec fr) = w := by
        unfold setBlk
        have : w.heap.setIfInBounds k (.cells cells ec fr) = w.heap := by
          apply Array.ext_getElem?
          intro j
          rw [Array.getElem?_setIfInBounds]
          by_cases ej : k = j
          · subst ej; simp [hk, (Array.getElem?_eq_some_iff.1 hb).2]
          · simp [ej]
        rw [this]
      have := put_ok i hf ⟨_, hg, rfl⟩ (.cells cells ec fr) (.cells rows zv.length) (fun _ _ _ hy => by rw [hb] at hy; exact ⟨cells, ec, fr, rfl, by simp only [Option.some.injEq, Obj.cells.injEq] at hy; rw [hy.1]⟩)
        (fun hG => by rw [hsame]; exact ⟨rfl, cells, ec, fr, hb, hfr, hrow⟩)
      rw [hsame] at this
      exact ⟨.tuple #[], w, by simp [Builtin.clear_, hd], this.1, this.2, und_tup⟩
    · have haddr := ha (by omega)
      subst haddr
      have hzr : VRr w f G zv.length (List.replicate n zv) (fun j => (Builtin.zeroCells zu.cells n)[j]?) := by
        have := zrows_ok (n := n) z1 z2 z3
        simpa [Builtin.zeroCells, z1] using this
      have hzl : (Builtin.zeroCells zu.cells n).size = n * zv.length := by rw [size_zeroCells, z1]
      have h1c := VRr_cells hzr
      have hzl' : (Builtin.zeroCells zu.cells n).toList.length = n * zv.length := by rw [← hzl]; exact Array.length_toList
      have hfitc : s + o * zv.length + 0 + (Builtin.zeroCells zu.cells n).toList.length ≤ cells.size := by
        rw [hzl']
        rw [hb] at hbz
        simp only [Option.some.injEq, Obj.cells.injEq] at hbz
        have h1 : n * zv.length ≤ c' * zv.length := Nat.mul_le_mul_right _ hn
        rw [← hbz.1] at hfitz
        omega
      obtain ⟨cc', c1, c2, c3⟩ := storeCells_ok (P := P) (k := k) (off := s + o * zv.length) (Builtin.zeroCells zu.cells n).toList 0 w cells hb hfr hfitc (fun u hu => by
        obtain ⟨j, hj⟩ := List.mem_iff_getElem?.1 hu
        have hj' : (Builtin.zeroCells zu.cells n)[j]? = some u := by simpa using hj
        have hjl := (Array.getElem?_eq_some_iff.1 hj').1
        obtain ⟨u', hu', h1⟩ := h1c j (by simpa [hzl] using hjl)
        rw [hj'] at hu'; cases hu'; exact h1)
      have := put_ok i hf ⟨_, hg, rfl⟩ (.cells cc' ec fr) (.cells rows' zv.length) (fun _ _ _ hy => by rw [hb] at hy; exact ⟨cc', ec, fr, rfl, by simp only [Option.some.injEq, Obj.cells.injEq] at hy; rw [c1, hy.1]⟩)
        (fun hG => ⟨rfl, cc', ec, fr, by rw [setBlk_get _ _ _ _ hk, if_pos rfl], by rw [c1]; exact hfr, VRr_iff.2 fun m r hm => by
          rw [q3] at hm
          have hml : m < rows'.length := by rw [q2]; split at hm <;> have := (List.getElem?_eq_some_iff.1 hm).1 <;> first | omega | (simp at this; omega)
          split at hm
          · rename_i hin
            obtain ⟨r1, r2, r3⟩ := VRr_iff.1 (VRr.mono _ _ (FLe.refl _) (GLe.refl _) hG hzr) _ _ hm
            refine ⟨r1, r2, VRs_iff.2 fun q v hq => ?_⟩
            obtain ⟨u, hu, hv⟩ := VRs_iff.1 r3 q v hq
            refine ⟨u, ?_, hv⟩
            have hql := (List.getElem?_eq_some_iff.1 hq).1
            have e1 : m * zv.length = o * zv.length + (m - o) * zv.length := by rw [← Nat.add_mul]; congr 1; omega
            have e2 := row_end (z := zv.length) (i := m - o) (n := n) (by omega)
            rw [c2, if_pos ⟨by omega, by rw [hzl']; omega⟩, ← hu]
            simp only [Array.getElem?_toList]
            congr 1; omega
          · rename_i hin
            obtain ⟨r1, r2, r3⟩ := VRr_iff.1 (VRr.mono _ _ (FLe.refl _) (GLe.refl _) hG hrow) _ _ hm
            refine ⟨r1, r2, VRs_iff.2 fun q v hq => ?_⟩
            obtain ⟨u, hu, hv⟩ := VRs_iff.1 r3 q v hq
            refine ⟨u, ?_, hv⟩
            have hql := (List.getElem?_eq_some_iff.1 hq).1
            rw [c2, if_neg]
            · exact hu
            · rw [hzl']
              rintro ⟨g1, g2⟩
              rcases Nat.lt_or_ge m o with hmo | hmo
              · have := row_end (z := zv.length) hmo; omega
              · have hmo2 : o + n ≤ m := by omega
                have := Nat.mul_le_mul_right zv.length hmo2
                rw [Nat.add_mul] at this
                omega⟩)
      refine ⟨.tuple #[], _, ?_, this.1, this.2, und_tup⟩
      cases n with
      | zero => exact absurd rfl hn0
      | succ n => simp [Builtin.clear_, hd, hz0, c3]
  · cases hl
theorem builtin_ok (hc : TyOk P cx) (i : Inv w f G h) {b : Builtin} {ts : List Nat} {ty : Nat} {cs : Array Bool} {args : List V} {args' : List Value} {v : V} {h' : Hp} (hl : args'.length = args.length) (ha : VRs w f G args (fun i => args'[i]?))
    (hb : builtinV cx h b ts args = some (v, h')) : OpR w f G h ((builtin b ⟨ts⟩ ty cs ⟨args'⟩).run P w) v h' := by
  unfold builtinV at hb
  split at hb
  · rename_i x t r
    split at hb
    case h_2 => cases hb
    rename_i v' hv
    cases hb
    match args', hl, ha with
    | [u], _, ha =>
      simp only [VRs] at ha
      obtain ⟨⟨u', e1, e2⟩, _⟩ := ha
      simp only [List.getElem?_cons_zero, Option.some.injEq] at e1
      subst e1
      exact OpR.of1 i (lenV_ok hc i e2 hv)
  · rename_i s x t u
    split at hb
    case h_2 => cases hb
    rename_i ui hui
    split at hb
    · cases hb
    rename_i hni
    match args', hl, ha with
    | [p, q], _, ha =>
      simp only [VRs] at ha
      obtain ⟨⟨u', e1, e2⟩, ⟨u'', e3, e4⟩, _⟩ := ha
      simp only [List.getElem?_cons_zero, Option.some.injEq] at e1
      simp only [List.getElem?_cons_succ, List.getElem?_cons_zero, Option.some.injEq] at e3
      subst e1 e3
      exact OpR.of (append_ok hc i hui hni e2 e4 hb)
  · rename_i _ k a r
    split at hb
    case h_2 => cases hb
    rename_i n hn
    cases hb
    match args', hl, ha with
    | p :: us, hl, ha =>
      simp only [VRs] at ha
      obtain ⟨⟨u', e1, e2⟩, e3⟩ := ha
      simp only [List.getElem?_cons_zero, Option.some.injEq] at e1
      subst e1
      simp only [VR] at e2
      subst e2
      exact OpR.of1 i ⟨.int k n, by simpa [Builtin.max_] using maxI_ok hn (by simpa using e3) (by simpa using hl), by simp [VR]⟩
  · rename_i _ k a r
    split at hb
    case h_2 => cases hb
    rename_i n hn
    cases hb
    match args', hl, ha with
    | p :: us, hl, ha =>
      simp only [VRs] at ha
      obtain ⟨⟨u', e1, e2⟩, e3⟩ := ha
      simp only [List.getElem?_cons_zero, Option.some.injEq] at e1
      subst e1
      simp only [VR] at e2
      subst e2
      exact OpR.of1 i ⟨.int k n, by simpa [Builtin.min_] using minI_ok hn (by simpa using e3) (by simpa using hl), by simp [VR]⟩
  · rename_i x t r
    match args', hl, ha with
    | [u], _, ha =>
      simp only [VRs] at ha
      obtain ⟨⟨u', e1, e2⟩, _⟩ := ha
      simp only [List.getElem?_cons_zero, Option.some.injEq] at e1
      subst e1
      obtain ⟨r', w', h1, h2, h3, h4⟩ := clear_ok hc i (ts := r) (ty := ty) e2 hb
      exact OpR.of ⟨r', w', f, h1, h2, h3, h4⟩
  · cases hb
end Go.Ev
end

section
set_option linter.unusedVariables false
set_option linter.unusedSimpArgs false
namespace Go.Ev
variable {P : Program} {cx : Cx} {w : World} {f : FM} {G G' : GM} {h : Hp}
theorem mapO_length {α β : Type} {g : α → Option β} : ∀ {l : List α} {l' : List β}, mapO g l = some l' → l'.length = l.length
  | [], l', h => by simp [mapO] at h; subst h; rfl
  | a :: l, l', h => by
    simp only [mapO] at h
    cases h1 : g a with
    | none => simp [h1] at h
    | some b =>
      cases h2 : mapO g l with
      | none => simp [h1, h2] at h
      | some bs =>
        simp only [h1, h2, Option.some.injEq] at h
        subst h
        simp [mapO_length h2]
theorem mapO_get {α β : Type} {g : α → Option β} : ∀ {l : List α} {l' : List β}, mapO g l = some l' → ∀ (i : Nat) (a : α), l[i]? = some a → ∃ b, l'[i]? = some b ∧ g a = some b
  | [], l', h, i, a, hi => by simp at hi
  | x :: l, l', h, i, a, hi => by
    simp only [mapO] at h
    cases h1 : g x with
    | none => simp [h1] at h
    | some b =>
      cases h2 : mapO g l with
      | none => simp [h1, h2] at h
      | some bs =>
        simp only [h1, h2, Option.some.injEq] at h
        subst h
        cases i with
        | zero => simp at hi; subst hi; exact ⟨b, by simp, h1⟩
        | succ i => simpa using mapO_get h2 i a (by simpa using hi)
theorem mapO_get' {α β : Type} {g : α → Option β} {l : List α} {l' : List β} (h : mapO g l = some l') (i : Nat) (b : β) (hi : l'[i]? = some b) : ∃ a, l[i]? = some a ∧ g a = some b := by
  have hl := mapO_length h
  have hlt : i < l.length := by rw [← hl]; exact (List.getElem?_eq_some_iff.1 hi).1
  obtain ⟨b', h1, h2⟩ := mapO_get h i l[i] (by simp [hlt])
  rw [hi] at h1; cases h1
  exact ⟨l[i], by simp [hlt], h2⟩
theorem fz_one {β : Bool} {d : Nat} {v v' : V} (hf : fz β h d v = some v') (h1 : v.one = true) : v'.one = true := by
  cases d with
  | zero => simp [fz] at hf
  | succ d =>
    simp only [fz] at hf
    split at hf
    · cases hf; exact h1
    · split at hf
      · simp [V.one] at h1
      · simp [V.one] at h1
      · simp only [Option.map_eq_some_iff] at hf
        obtain ⟨_, _, rfl⟩ := hf
        rfl
      · split at hf
        · split at hf
          · split at hf
            · split at hf
              · cases hf; rfl
              · cases hf
            · cases hf
          · cases hf
        · cases hf
      · cases hf
theorem cut_true (G : GM) : G.cut true = G := by funext b; simp [GM.cut]
theorem bors_rows {l : List (List V)} (hb : l.any V.bors = false) : ∀ r ∈ l, V.bors r = false := by
  intro r hr
  rw [List.any_eq_false] at hb
  simpa using hb r hr
theorem fz_ok (i : Inv w f G h) {β : Bool} (hG : GLe G G') (hup : ∀ k, G' false k → G' true k) (hf : ∀ b k s z, f b = some (k, s, z) → G' β k) :
    ∀ (d : Nat) (v v' : V) (x : Value), VR w f G v x → fz β h d v = some v' → VR w noF G' v' x := by
  intro d
  induction d with
  | zero => intro v v' x _ hz; simp [fz] at hz
  | succ d ih =>
    have ihs : ∀ (vs vs' : List V) (g : Nat → Option Value), VRs w f G vs g → mapO (fz β h d) vs = some vs' → VRs w noF G' vs' g := fun vs vs' g hv hm => VRs_iff.2 fun j v' hj => by
      obtain ⟨v, h1, h2⟩ := mapO_get' hm j v' hj
      obtain ⟨u, hu, hr⟩ := VRs_iff.1 hv j v h1
      exact ⟨u, hu, ih v v' u hr h2⟩
    have ones_of : ∀ (vs vs' : List V), ones vs → mapO (fz β h d) vs = some vs' → ones vs' := fun vs vs' ho hm v' hv' => by
      obtain ⟨j, hj⟩ := List.mem_iff_getElem?.1 hv'
      obtain ⟨v, h1, h2⟩ := mapO_get' hm j v' hj
      exact fz_one h2 (ho v (List.mem_iff_getElem?.2 ⟨j, h1⟩))
    intro v v' x hv hz
    simp only [fz] at hz
    split at hz
    · rename_i hp
      cases hz
      exact VR.mono v (FLe.refl _) hG (GKept.refl _ _) (VR.pure v hp hv)
    · split at hz
      · rename_i cs _
        simp only [Option.map_eq_some_iff] at hz
        obtain ⟨cs', hm, rfl⟩ := hz
        simp only [VR] at hv ⊢
        obtain ⟨c', rfl, h1, h2, h3⟩ := hv
        exact ⟨c', rfl, by rw [h1, mapO_length hm], ones_of _ _ h2 hm, ihs _ _ _ h3 hm⟩
      · rename_i cs _
        simp only [Option.map_eq_some_iff] at hz
        obtain ⟨cs', hm, rfl⟩ := hz
        simp only [VR] at hv ⊢
        obtain ⟨c', rfl, h1, h3⟩ := hv
        exact ⟨c', rfl, by rw [h1, mapO_length hm], ihs _ _ _ h3 hm⟩
      · rename_i t v0 _
        simp only [Option.map_eq_some_iff] at hz
        obtain ⟨v1, hm, rfl⟩ := hz
        simp only [VR] at hv ⊢
        obtain ⟨u, rfl, hu⟩ := hv
        exact ⟨u, rfl, ih _ _ _ hu hm⟩
      · rename_i b o n z c _
        split at hz
        case h_2 => cases hz
        rename_i rows z' hg
        split at hz
        case isFalse => cases hz
        rename_i hzz
        subst hzz
        split at hz
        case h_2 => cases hz
        rename_i l hl
        split at hz
        case h_2 => cases hz
        rename_i l' hm
        cases hz
        have hll := mapO_length hm
        have hln := seg_length hl
        simp only [VR] at hv ⊢
        obtain ⟨k, s, c', a, hfb, rfl, ha, hn, _⟩ := hv
        refine ⟨a, c', by rw [hll, hln], by omega, by simp, fun hne => ?_⟩
        have hn0 : n ≠ 0 := by
          rintro rfl
          exact hne (List.eq_nil_of_length_eq_zero (by omega))
        have := ha (by omega)
        subst this
        obtain ⟨_, cc, e, fr, hb, _, hrow⟩ := i.rel b k s z' _ hfb hg
        have hrows : VRr w noF G' z' l' (fun j => cc[s + o * z' + j]?) := VRr_iff.2 fun j r' hj => by
          obtain ⟨r, h1, h2⟩ := mapO_get' hm j r' hj
          rw [seg_get hl] at h1
          split at h1
          · obtain ⟨q1, q2, q3⟩ := VRr_iff.1 hrow _ _ h1
            refine ⟨by rw [mapO_length h2, q1], ones_of _ _ q2 h2, ihs _ _ _ ?_ h2⟩
            have e9 : (fun q => cc[s + o * z' + (j * z' + q)]?) = fun q => cc[s + ((o + j) * z' + q)]? := by
              funext q; congr 1; rw [Nat.add_mul]; omega
            rw [e9]; exact q3
          · cases h1
        refine ⟨rfl, ?_, cc, e, fr, hb, ?_⟩
        · have := hf b k s z' hfb
          cases β with
          | true => simpa using this
          | false =>
            cases (l'.any V.bors) with
            | true => simpa using hup _ this
            | false => simpa using this
        · cases hfl : (β || l'.any V.bors) with
          | true => rw [cut_true]; exact hrows
          | false =>
            have hb0 : l'.any V.bors = false := by
              cases β <;> simp_all
            refine VRr_iff.2 fun j r hj => ?_
            obtain ⟨q1, q2, q3⟩ := VRr_iff.1 hrows j r hj
            exact ⟨q1, q2, VRs.unlent r (bors_rows hb0 r (List.mem_iff_getElem?.2 ⟨j, hj⟩)) q3⟩
      · cases hz
end Go.Ev
end

section
set_option linter.unusedVariables false
set_option linter.unusedSimpArgs false
namespace Go.Ev
variable {P : Program} {cx : Cx} {w : World} {f : FM} {G : GM} {h : Hp}
/-! ### A scope inside the fence -/
section
variable {b : Frame} {a : Act} {k : List Item} {cs : List Frame} {F : Fence} {n : Nat} {Q : Exit → Act → World → Prop}
theorem stepR_scope {c : Code} : Go.step P (lone (b.atR a (.code (.scope c) :: k)) cs w) = .next (lone (b.atR a (.code c :: .inScope c :: k)) cs w) :=
  step_lone_go (by simp [stepG, stepG.exec, Frame.atR])
theorem stepR_inScope {c : Code} : Go.step P (lone (b.atR a (.inScope c :: k)) cs w) = .next (lone (b.atR a k) cs w) :=
  step_lone_go (by simp [stepG, stepG.exec, Frame.atR])
theorem wpIn_scope {c : Code} (h : c.wpIn F n P (Exit.noGoto Q) a w) : (Code.scope c).wpIn F n P Q a w := by
  intro b k cs hro hb hr
  have h0 : (lone (b.atR a (.code (.scope c) :: k)) cs w).fenced P F := fenced_calm hb hr rfl
  obtain ⟨e, a₁, w₁, hq, harr⟩ := h b (.inScope c :: k) cs hro hb hr
  cases e with
  | normal => exact ⟨.normal, a₁, w₁, hq, .head h0 stepR_scope (StepsIn.trans harr (.one (fenced_calm hb hr rfl) stepR_inScope))⟩
  | exit id =>
    have hx : exitTo id (.inScope c :: k) = exitTo id k := by simp [exitTo]
    exact ⟨.exit id, a₁, w₁, hq, fun k' hk => .head h0 stepR_scope (harr.1 k' (by rw [hx]; exact hk)),
      fun hr' hk => let ⟨k₁, h1, h2⟩ := harr.2 hr' (by rw [hx]; exact hk); ⟨k₁, h1, .head h0 stepR_scope h2⟩⟩
  | goto l => exact hq.elim
  | ret => exact ⟨_, a₁, w₁, hq, .of_steps (.one h0 stepR_scope) harr⟩
  | panic ch => exact ⟨_, a₁, w₁, hq, .of_steps (.one h0 stepR_scope) harr⟩
  | outgrown => exact ⟨_, a₁, w₁, hq, .of_steps (.one h0 stepR_scope) harr⟩
end
/-! ### What is to be shown -/
abbrev Fr (r : Option Nat) : Fence := { Fence.wide with round := r }
/-- What an operation comes to, whatever the activation is. -/
def Upon (F : Fence) (n : Nat) (P : Program) (K : Value → World → Prop) : Result Next → Prop
  | .ok (.value v) w' => K v w'
  | .ok .skip w' => K undef w'
  | .ok (.enter f args) w' => CallsIn F (n - 1) P f args w' fun e w'' => ∃ v, e = .returned v ∧ K v w''
  | .ok (.round l f tmps assign body) w' => RoundIn F (n - 1) P l f tmps assign body w' fun e w'' => ∃ v, e = .returned v ∧ K v w''
  | _ => False
theorem Upon.mono {F : Fence} {n : Nat} {K K' : Value → World → Prop} {r : Result Next} (h : Upon F n P K r) (hk : ∀ v w, K v w → K' v w) : Upon F n P K' r := by
  unfold Upon at *
  split <;> simp only at h
  · exact hk _ _ h
  · exact hk _ _ h
  · exact h.mono fun e w ⟨v, h1, h2⟩ => ⟨v, h1, hk _ _ h2⟩
  · exact h.mono fun e w ⟨v, h1, h2⟩ => ⟨v, h1, hk _ _ h2⟩
theorem Upon.upon {r : Option Nat} {n : Nat} {K : Value → World → Prop} {o : Oper} {a : Act} {next : Act → World → Prop} {Q : Exit → Act → World → Prop} {res : Result Next} (h : Upon (Fr r) n P K res) (hk : ∀ v w, K v w → next (a.put o.dst v) w) :
    o.uponIn (Fr r) n P a next Q res := by
  unfold Upon at h
  split at h
  · exact hk _ _ h
  · exact hk _ _ h
  · rw [Oper.uponIn_enter]
    exact ⟨fun h => by simp [Fence.wide] at h, h.mono fun e w ⟨v, h1, h2⟩ => by subst h1; exact hk _ _ h2⟩
  · rw [Oper.uponIn_round]
    exact ⟨fun h => by simp [Fence.wide] at h, h.mono fun e w ⟨v, h1, h2⟩ => by subst h1; exact hk _ _ h2⟩
  · exact h.elim
/-- What a step of the evaluator says of a step of the machine. -/
def Res (w : World) (f : FM) (G : GM) (h : Hp) (v : V) (h' : Hp) (x : Value) (w' : World) : Prop := ∃ f' G', Stp w f G h w' f' G' h' ∧ Inv w' f' G' h' ∧ VR w' f' G' v x
theorem OpR.upon {r : Option Nat} {n : Nat} {res : Result Next} {v : V} {h' : Hp} (ho : OpR w f G h res v h') : Upon (Fr r) n P (Res w f G h v h') res := by
  obtain ⟨x, w', f', h1 | ⟨h1, rfl⟩, h2, h3, h4⟩ := ho
  · rw [h1]; exact ⟨f', G, h2, h3, h4⟩
  · rw [h1]; exact ⟨f', G, h2, h3, h4⟩
/-- A loop's record stays one; what lies below the lowest block that has been written stays. -/
def KeepL (h h' : Hp) : Prop := h.next ≤ h'.next ∧ (∀ b lp, b < h.next → h.get b = some (.loop lp) → ∃ lp', h'.get b = some (.loop lp')) ∧ h'.low ≤ h.low ∧ ∀ b, b < h.next → b < h'.low → h'.get b = h.get b
theorem KeepL.refl (h : Hp) : KeepL h h := ⟨Nat.le_refl _, fun b lp _ e => ⟨lp, e⟩, Nat.le_refl _, fun _ _ _ => rfl⟩
theorem KeepL.trans {h h1 h2 : Hp} (a : KeepL h h1) (b : KeepL h1 h2) : KeepL h h2 := ⟨Nat.le_trans a.1 b.1, fun c lp hc e => by
  obtain ⟨lp1, e1⟩ := a.2.1 c lp hc e
  exact b.2.1 c lp1 (Nat.lt_of_lt_of_le hc a.1) e1, Nat.le_trans b.2.2.1 a.2.2.1, fun c hc hl => by
    rw [b.2.2.2 c (Nat.lt_of_lt_of_le hc a.1) hl, a.2.2.2 c hc (Nat.lt_of_lt_of_le hl b.2.2.1)]⟩
theorem KeepL.add (h : Hp) (o : Ob) : KeepL h (h.add o) := ⟨by simp, fun b lp hb e => ⟨lp, by rw [Hp.get_add, if_neg (by omega)]; exact e⟩, by simp, fun b hb _ => by rw [Hp.get_add, if_neg (by omega)]⟩
theorem KeepL.put {h : Hp} {b : Nat} {o : Ob} (ho : ∀ lp, h.get b = some (.loop lp) → ∃ lp', o = .loop lp') : KeepL h (h.put b o) := ⟨by simp, fun c lp hc e => by
  rw [Hp.get_put]
  by_cases ec : c = b
  · subst ec
    rw [if_pos rfl]
    obtain ⟨lp', e2⟩ := ho lp e
    exact ⟨lp', by rw [e2]⟩
  · rw [if_neg ec]; exact ⟨lp, e⟩, by simp; omega, fun c hc hl => by
    simp only [Hp.low_put] at hl
    rw [Hp.get_put, if_neg (by omega)]⟩
/-- the loop around -/
def RoundOk (f : FM) (h : Hp) (r : Option Nat) : Prop := ∀ l, r = some l → ∃ b s z lp, f b = some (l, s, z) ∧ b < h.next ∧ h.get b = some (.loop lp)
theorem RoundOk.none (f : FM) (h : Hp) : RoundOk f h none := fun l e => by cases e
theorem RoundOk.step {f f' : FM} {h h' : Hp} {r : Option Nat} (ho : RoundOk f h r) (hf : FLe f f') (hk : KeepL h h') : RoundOk f' h' r := fun l e => by
  obtain ⟨b, s, z, lp, h1, h2, h3⟩ := ho l e
  obtain ⟨lp', h4⟩ := hk.2.1 b lp h2 h3
  exact ⟨b, s, z, lp', hf _ _ h1, Nat.lt_of_lt_of_le h2 hk.1, h4⟩
/-- the marks that range-over-func loops have left among the deferred calls -/
def Marks (base : Nat) (w : World) (f : FM) (G : GM) : List Deferred → Prop
  | [] => True
  | d :: ds => (∃ r, d.target = .collected r ∧ base ≤ r ∧ w.heap[r]? = some (.deferred (some [])) ∧ (∀ b s z, f b ≠ some (r, s, z)) ∧ (∀ β, ¬ G β r) ∧ ∀ d' ∈ ds, d'.target ≠ .collected r) ∧ Marks base w f G ds
theorem Marks.mem {base : Nat} : ∀ {ds : List Deferred}, Marks base w f G ds → ∀ d ∈ ds, ∃ r, d.target = .collected r ∧ base ≤ r ∧ r < w.heap.size
  | d :: ds, ⟨⟨r, h1, h2, h3, _⟩, hd⟩, d', hm => by
    rcases List.mem_cons.1 hm with rfl | hm
    · exact ⟨r, h1, h2, (Array.getElem?_eq_some_iff.1 h3).1⟩
    · exact Marks.mem hd d' hm
theorem Marks.step {base : Nat} {w' : World} {f' : FM} {G' : GM} {h' : Hp} (a : Stp w f G h w' f' G' h') : ∀ {ds : List Deferred}, Marks base w f G ds → Marks base w' f' G' ds
  | [], _ => trivial
  | d :: ds, ⟨⟨r, h1, h2, h3, h4, h5, h6⟩, hd⟩ => by
    have hr := (Array.getElem?_eq_some_iff.1 h3).1
    refine ⟨⟨r, h1, h2, ?_, fun b s z e => ?_, fun β hg => ?_, h6⟩, hd.step a⟩
    · rw [a.old r hr fun b s z e => absurd e (h4 b s z)]; exact h3
    · cases e0 : f b with
      | some y =>
        have := a.fle b y e0
        rw [e] at this; cases this
        exact h4 b s z e0
      | none =>
        obtain ⟨_, x | ⟨b0, s0, z0, e1, _⟩⟩ := a.fnew b r s z e e0
        · omega
        · exact h4 b0 s0 z0 e1
    · rcases a.gnew β r hg with x | x
      · exact h5 β x
      · omega
theorem Marks.base {b b' : Nat} (hb : b' ≤ b) : ∀ {ds : List Deferred}, Marks b w f G ds → Marks b' w f G ds
  | [], _ => trivial
  | d :: ds, ⟨⟨r, h1, h2, h3⟩, hd⟩ => ⟨⟨r, h1, Nat.le_trans hb h2, h3⟩, Marks.base hb hd⟩
theorem Marks.append {b1 b2 : Nat} : ∀ {d1 d2 : List Deferred}, Marks b1 w f G d1 → Marks b2 w f G d2 → b2 ≤ b1 → (∀ d ∈ d2, ∀ r, d.target = .collected r → r < b1) → Marks b2 w f G (d1 ++ d2)
  | [], d2, _, h2, _, _ => h2
  | d :: d1, d2, ⟨⟨r, h1, h3, h4, h5, h6, h7⟩, hd⟩, h2, hb, hn => ⟨⟨r, h1, Nat.le_trans hb h3, h4, h5, h6, fun d' hm => by
      rcases List.mem_append.1 hm with hm | hm
      · exact h7 d' hm
      · intro e
        have := hn d' hm r e
        omega⟩, Marks.append hd h2 hb hn⟩
def exitOf : Out → Exit
  | .normal => .normal
  | .ret => .ret
  | .exit id => .exit id
/-- What is left behind by code. -/
def PostC (w : World) (f : FM) (G : GM) (s : St) (ds : List Deferred) (e : Out) (s' : St) : Exit → Act → World → Prop := fun x a' w' =>
  x = exitOf e ∧ ∃ f' G' ms, Stp w f G s.h w' f' G' s'.h ∧ Inv w' f' G' s'.h ∧ ActR w' f' G' s'.tm a' ∧ a'.defers = ms ++ ds ∧ Marks w.heap.size w' f' G' ms
def Runs (n : Nat) (c : Code) (F : Fence) (m : Nat) (P : Program) (Q : Exit → Act → World → Prop) (a : Act) (w : World) : Prop :=
  match c with
  | .loop b => Code.roundsIn F m P b Q n a w
  | c => c.wpIn F m P Q a w
theorem Runs.wp {n : Nat} {c : Code} {F : Fence} {m : Nat} {Q : Exit → Act → World → Prop} {a : Act} (hr : Runs n c F m P Q a w) : c.wpIn F m P Q a w := by
  unfold Runs at hr
  split at hr
  · exact wpIn_loop_rounds n hr
  · exact hr
def CodeS (P : Program) (n : Nat) (c : Code) (s : St) (e : Out) (s' : St) : Prop :=
  KeepL s.h s'.h ∧ ∀ (r : Option Nat) (m : Nat) (w : World) (f : FM) (G : GM) (a : Act), Inv w f G s.h → ActR w f G s.tm a → RoundOk f s.h r → Runs n c (Fr r) m P (PostC w f G s a.defers e s') a w
def CallS (P : Program) (cx : Cx) (g : Nat) (args : List V) (h : Hp) (v : V) (h' : Hp) : Prop :=
  (∃ fn, cx.fn g = some fn ∧ fn.body.isSome = true) ∧ KeepL h h' ∧ ∀ (m : Nat) (w : World) (f : FM) (G : GM) (args' : Array Value), Inv w f G h → args'.size = args.length → VRs w f G args (fun i => args'[i]?) →
    CallsIn Fence.wide m P g args' w fun e w' => ∃ x, e = .returned x ∧ Res w f G h v h' x w'
/-- What a call leaves behind that is given nothing to write on. -/
structure StpP (w : World) (G : GM) (w' : World) (G' : GM) : Prop where
  os : w'.os = w.os
  tape : w'.tape = w.tape
  output : w'.output = w.output
  size : w.heap.size ≤ w'.heap.size
  gle : GLe G G'
  gnew : ∀ β k, G' β k → G β k ∨ w.heap.size ≤ k
  gin : ∀ β k, G' β k → k < w'.heap.size
  gup : ∀ k, G' false k → G' true k
  old : ∀ k, k < w.heap.size → w'.heap[k]? = w.heap[k]?
def PcallS (P : Program) (cx : Cx) (g : Nat) (args : List V) (v : V) : Prop :=
  (∃ fn, cx.fn g = some fn ∧ fn.body.isSome = true) ∧ ∀ (m : Nat) (w : World) (G : GM) (args' : Array Value), (∀ β k, G β k → k < w.heap.size) → (∀ k, G false k → G true k) → args'.size = args.length → VRs w noF G args (fun i => args'[i]?) →
    CallsIn Fence.wide m P g args' w fun e w' => ∃ x, e = .returned x ∧ ∃ G', StpP w G w' G' ∧ VR w' noF G' v x
def Sound (P : Program) (cx : Cx) (n : Nat) : Tk → Rs → Prop
  | .code c s, .out e s' => CodeS P n c s e s'
  | .call g args h, .val v h' => CallS P cx g args h v h'
  | .pcall g args, .val v _ => PcallS P cx g args v
  | _, _ => False
/-- What must hold of what the evaluator is told. -/
structure CxOk (P : Program) (cx : Cx) : Prop where
  ty : TyOk P cx
  fn : ∀ g fn, cx.fn g = some fn → P.funcs[g]? = some fn ∧ (fn.name == "runtime.NumGoroutine") = false
  meth : ∀ t m g, cx.meth t m = some g → ∀ v w, (method (P.types.size + Made.depth) t v m).run P w = .ok (g, v) w
  mixed : P.follows .mixedOrders = true
  prim : ∀ g p args v, cx.prim g = some p → p args = some v → ∀ (r : Option Nat) (m : Nat) (w : World) (f : FM) (G : GM) (h : Hp) (args' : Array Value), Inv w f G h → args'.size = args.length → VRs w f G args (fun i => args'[i]?) →
    Upon (Fr r) m P (Res w f G h v h) ((callFunc g args').run P w)
  spec : ∀ g p args v, cx.spec g = some p → p args = some v → PcallS P cx g args v
end Go.Ev
end

section
set_option linter.unusedVariables false
set_option linter.unusedSimpArgs false
namespace Go.Ev
variable {P : Program} {cx : Cx} {w : World} {f : FM} {G : GM} {h : Hp}
/-! ### A loop's record stays one -/
theorem keep_h {h0 : Hp} {o : Option V} {v : V} {h' : Hp} (e : keep h0 o = some (v, h')) : KeepL h0 h' := by rw [(keep_some e).2]; exact KeepL.refl _
theorem storeAt_keep {h0 : Hp} {t : Nat} {a v : V} {h' : Hp} (e : storeAt cx h0 t a v = some h') : KeepL h0 h' := by
  unfold storeAt at e
  repeat' (split at e <;> try cases e)
  rename_i hg _ _ _ _ _ _ _ _ _ _
  exact KeepL.put fun lp hl => by simp_all
theorem conv_keep {h0 : Hp} {s d : Nat} {x v : V} {h' : Hp} (e : conv cx h0 s d x = some (v, h')) : KeepL h0 h' := by
  unfold conv at e
  repeat' (split at e <;> try cases e)
  all_goals first | exact KeepL.refl _ | exact KeepL.add ..
theorem opP_keep {s : St} {o : Op} {v : V} {h' : Hp} (e : opP cx s o = some (v, h')) : KeepL s.h h' := by
  cases o <;> simp only [opP] at e
  case move => exact keep_h e
  case assign => exact keep_h e
  case pick => unfold opPick at e; split at e <;> first | exact keep_h e | cases e
  case alloc => unfold opAlloc at e; split at e <;> first | (cases e; exact KeepL.add ..) | cases e
  case box =>
    unfold opBox at e
    repeat' (split at e <;> try cases e)
    exact KeepL.add ..
  case build => unfold opBuild at e; split at e <;> first | exact keep_h e | cases e
  case buildSlice =>
    unfold opBuildSlice at e
    repeat' (split at e <;> try cases e)
    exact KeepL.add ..
  case load => unfold opLoad at e; split at e <;> first | exact keep_h e | cases e
  case store =>
    unfold opStore at e
    split at e
    · split at e
      · rename_i hs; cases e; exact storeAt_keep hs
      · cases e
    · cases e
  case nilCheck => unfold opNilCheck at e; split at e <;> first | (cases e; exact KeepL.refl _) | cases e
  case binOp => unfold opBin at e; split at e <;> first | exact keep_h e | cases e
  case unOp => unfold opUn at e; split at e <;> first | exact keep_h e | cases e
  case convert => unfold opConv at e; split at e <;> first | exact conv_keep e | cases e
  case makeInterface =>
    unfold opMkIface at e
    repeat' (split at e <;> try cases e)
    exact KeepL.refl _
  case makeFunc => unfold opMkFunc at e; split at e <;> first | (cases e; exact KeepL.refl _) | cases e
  case makeMap t r =>
    cases r with
    | none => simp only [opMkMap, Option.some.injEq, Prod.mk.injEq] at e; rw [← e.2]; exact KeepL.add ..
    | some r => cases e
  case makeSlice =>
    unfold opMkSlice at e
    repeat' (split at e <;> try cases e)
    exact KeepL.add ..
  case slice => unfold opSlice at e; split at e <;> first | exact keep_h e | cases e
  case fieldAddr => unfold opFieldAddr at e; split at e <;> first | exact keep_h e | cases e
  case field => unfold opField at e; split at e <;> first | exact keep_h e | cases e
  case indexAddr => unfold opIndexAddr at e; split at e <;> first | exact keep_h e | cases e
  case index => unfold opIndex at e; split at e <;> first | exact keep_h e | cases e
  case lookup => unfold opLookup at e; split at e <;> first | exact keep_h e | cases e
  case mapUpdate =>
    unfold opMapUpdate at e
    repeat' (split at e <;> try cases e)
    rename_i hg _ _ _ _ _
    exact KeepL.put fun lp hl => by simp_all
  case typeAssert =>
    unfold opTypeAssert at e
    repeat' (split at e <;> try cases e)
    all_goals exact KeepL.refl _
  case extract => unfold opExtract at e; split at e <;> first | exact keep_h e | cases e
  all_goals cases e
theorem builtin_keep {h0 : Hp} {b : Builtin} {ts : List Nat} {args : List V} {v : V} {h' : Hp} (e : builtinV cx h0 b ts args = some (v, h')) : KeepL h0 h' := by
  unfold builtinV at e
  split at e
  · split at e <;> first | (cases e; exact KeepL.refl _) | cases e
  · split at e
    · split at e
      · cases e
      · unfold appendV at e
        split at e
        case h_2 => cases e
        split at e
        case h_2 => cases e
        split at e
        case h_2 => cases e
        split at e
        case h_2 => cases e
        rename_i hold _
        split at e
        · cases e; exact KeepL.refl _
        · split at e
          case isFalse => cases e
          unfold grow at e
          split at e
          · cases e; exact KeepL.add ..
          · cases e; exact KeepL.add ..
          · rename_i bb _ _ _ _
            split at e
            · cases e; exact KeepL.add ..
            · cases e
              refine KeepL.trans (KeepL.put (b := bb) (o := .dead) fun lp hl => ?_) (KeepL.add ..)
              simp only [rowOf, hl] at hold
              split at hold <;> cases hold
          · cases e
    · cases e
  · split at e <;> first | (cases e; exact KeepL.refl _) | cases e
  · split at e <;> first | (cases e; exact KeepL.refl _) | cases e
  · unfold clearV at e
    repeat' (split at e <;> try cases e)
    all_goals first
      | exact KeepL.refl _
      | (refine KeepL.put fun lp hl => ?_; simp_all)
  · cases e
/-! ### Calls -/
theorem run_call {rec : Tk → Rs → Prop} {t : Tk} {k : Rs → M} {res : Rs} (h : (M.call t k).runR rec res) : ∃ r, rec t r ∧ (k r).runR rec res := by
  exact h
theorem run_no {rec : Tk → Rs → Prop} {res : Rs} (h : M.no.runR rec res) : False := h
theorem callFunc_enter (hc : CxOk P cx) {g : Nat} {fn : Func} (hf : cx.fn g = some fn) (hb : fn.body.isSome = true) (args : Array Value) (w : World) : (callFunc g args).run P w = .ok (.enter g args) w := by
  obtain ⟨h1, h2⟩ := hc.fn g fn hf
  have h3 : fn.body.isNone = false := by
    cases hb' : fn.body with
    | none => rw [hb'] at hb; cases hb
    | some c => rfl
  simp only [callFunc, Sem.run_bind, run_program, Result.andThen_ok, h1, h2, h3, Bool.false_eq_true, if_false, Sem.run_pure]
theorem StpP.stp {w' : World} {G' : GM} (a : StpP w G w' G') (i : Inv w f G h) : Stp w f G h w' f G' h ∧ Inv w' f G' h := by
  have hG : GKept G w w' := ⟨fun β k hk => a.old k (i.gin β k hk), SKept.of_eq a.old⟩
  exact ⟨⟨a.os, a.tape, a.output, a.size, FLe.refl _, (fun b k s z e e0 => by rw [e] at e0; cases e0), a.gle, a.gnew, Nat.le_refl _, Nat.le_refl _, fun _ _ _ => rfl, fun k hk _ => a.old k hk, hG.2⟩,
    ⟨i.dom, fun b k s z e => ⟨Nat.lt_of_lt_of_le (i.rng b k s z e).1 a.size, fun β hg => by
      rcases a.gnew β k hg with x | x
      · exact (i.rng b k s z e).2 β x
      · have := (i.rng b k s z e).1; omega⟩, i.inj, a.gin, a.gup, fun b k s z o e hg => OR.mono (FLe.refl _) a.gle hG (a.old k (i.rng b k s z e).1) (i.rel b k s z o e hg)⟩⟩
theorem pcall_res {g : Nat} {args : List V} {v : V} (hp : PcallS P cx g args v) (i : Inv w f G h) {args' : Array Value} (hpu : V.pures args = true) (hs : args'.size = args.length) (ha : VRs w f G args (fun i => args'[i]?)) (m : Nat) :
    CallsIn Fence.wide m P g args' w fun e w' => ∃ x, e = .returned x ∧ Res w f G h v h x w' :=
  (hp.2 m w G args' i.gin i.gup hs (VRs.pure args hpu ha)).mono fun e w' ⟨x, h1, G', h2, h3⟩ => ⟨x, h1, f, G', (h2.stp i).1, (h2.stp i).2, VR.mono v (noF_le f) (GLe.refl _) (GKept.refl _ _) h3⟩
def GM.lent (G : GM) (f : FM) : GM := fun β k => G β k ∨ (β = true ∧ ∃ b s z, f b = some (k, s, z))
theorem lent_res {g : Nat} {args args1 : List V} {v : V} (hp : PcallS P cx g args1 v) (hb : v.bor = false) (i : Inv w f G h) {args' : Array Value} (hz : mapO (fz true h fzDepth) args = some args1) (hs : args'.size = args.length) (ha : VRs w f G args (fun i => args'[i]?)) (m : Nat) :
    CallsIn Fence.wide m P g args' w fun e w' => ∃ x, e = .returned x ∧ Res w f G h v h x w' := by
  have hl : GLe G (G.lent f) := fun β k hk => .inl hk
  have hup : ∀ k, G.lent f false k → G.lent f true k := fun k hk => by
    rcases hk with hk | ⟨e, _⟩
    · exact .inl (i.gup k hk)
    · cases e
  have hgin : ∀ β k, G.lent f β k → k < w.heap.size := fun β k hk => by
    rcases hk with hk | ⟨_, b, s, z, e⟩
    · exact i.gin β k hk
    · exact (i.rng b k s z e).1
  have ha1 : VRs w noF (G.lent f) args1 (fun i => args'[i]?) := VRs_iff.2 fun j v1 hj => by
    obtain ⟨v0, h1, h2⟩ := mapO_get' hz j v1 hj
    obtain ⟨u, hu, hv⟩ := VRs_iff.1 ha j v0 h1
    exact ⟨u, hu, fz_ok i hl hup (fun b k s z e => .inr ⟨rfl, b, s, z, e⟩) _ _ _ _ hv h2⟩
  refine (hp.2 m w (G.lent f) args' hgin hup (by rw [hs, mapO_length hz]) ha1).mono fun e w' ⟨x, h1, G2, h2, h3⟩ => ?_
  have hst : StpP w G w' (fun β k => G2 β k ∧ (G β k ∨ w.heap.size ≤ k)) := ⟨h2.os, h2.tape, h2.output, h2.size, fun β k hk => ⟨h2.gle β k (hl β k hk), .inl hk⟩, fun β k hk => hk.2, fun β k hk => h2.gin β k hk.1,
    fun k hk => ⟨h2.gup k hk.1, hk.2.imp (i.gup k) id⟩, h2.old⟩
  refine ⟨x, h1, f, _, (hst.stp i).1, (hst.stp i).2, ?_⟩
  refine VR.mono v (noF_le f) (fun β k hk => ?_) (GKept.refl _ _) (VR.unlent v hb h3)
  have hk' : G2 false k := by simpa [GM.cut] using hk
  have hor : G false k ∨ w.heap.size ≤ k := by
    rcases h2.gnew false k hk' with (x | ⟨x, _⟩) | x
    · exact .inl x
    · cases x
    · exact .inr x
  cases β with
  | false => exact ⟨hk', hor⟩
  | true => exact ⟨h2.gup k hk', hor.imp (i.gup k) id⟩
section
variable {rec : Tk → Rs → Prop} {n : Nat}
theorem callF_ok (hc : CxOk P cx) (H : ∀ t r, rec t r → Sound P cx n t r) {g : Nat} {args : List V} {h : Hp} {k : V → Hp → M} {res : Rs} (he : (callF cx g args h k).runR rec res) :
    ∃ v h', KeepL h h' ∧ (k v h').runR rec res ∧ ∀ (r : Option Nat) (m : Nat) (w : World) (f : FM) (G : GM) (args' : Array Value), Inv w f G h → args'.size = args.length → VRs w f G args (fun i => args'[i]?) →
      Upon (Fr r) m P (Res w f G h v h') ((callFunc g args').run P w) := by
  unfold callF at he
  split at he
  · rename_i p hp
    split at he
    · rename_i v hv
      exact ⟨v, h, KeepL.refl _, he, fun r m w f G args' i hs ha => hc.prim g p args v hp hv r m w f G h args' i hs ha⟩
    · exact (run_no he).elim
  · have inl : (M.call (.call g args h) (onVal k)).runR rec res → ∃ v h', KeepL h h' ∧ (k v h').runR rec res ∧ ∀ (r : Option Nat) (m : Nat) (w : World) (f : FM) (G : GM) (args' : Array Value), Inv w f G h → args'.size = args.length → VRs w f G args (fun i => args'[i]?) →
        Upon (Fr r) m P (Res w f G h v h') ((callFunc g args').run P w) := fun he => by
      obtain ⟨rs, h1, h2⟩ := run_call he
      have hS := H _ _ h1
      unfold onVal at h2
      split at h2
      · rename_i v h'
        obtain ⟨⟨fn, hf, hb⟩, hk, hcall⟩ := hS
        refine ⟨v, h', hk, h2, fun r m w f G args' i hs ha => ?_⟩
        rw [callFunc_enter hc hf hb]
        exact hcall (m - 1) w f G args' i hs ha
      · exact (run_no h2).elim
    split at he
    · exact inl he
    · split at he
      · rename_i hpu
        obtain ⟨rs, h1, h2⟩ := run_call he
        have hS := H _ _ h1
        unfold onPure at h2
        split at h2
        · rename_i v _
          obtain ⟨⟨fn, hf, hb⟩, hcall⟩ := hS
          refine ⟨v, h, KeepL.refl _, h2, fun r m w f G args' i hs ha => ?_⟩
          rw [callFunc_enter hc hf hb]
          exact pcall_res ⟨⟨fn, hf, hb⟩, hcall⟩ i hpu hs ha (m - 1)
        · exact (run_no h2).elim
      · split at he
        · rename_i args1 hz
          split at hz
          · obtain ⟨rs, h1, h2⟩ := run_call he
            have hS := H _ _ h1
            unfold onLent at h2
            split at h2
            · rename_i v _
              split at h2
              · exact (run_no h2).elim
              · rename_i hbor
                obtain ⟨⟨fn, hf, hb⟩, hcall⟩ := hS
                refine ⟨v, h, KeepL.refl _, h2, fun r m w f G args' i hs ha => ?_⟩
                rw [callFunc_enter hc hf hb]
                exact lent_res ⟨⟨fn, hf, hb⟩, hcall⟩ (by simpa using hbor) i hz hs ha (m - 1)
            · exact (run_no h2).elim
          · cases hz
        · exact inl he
end
end Go.Ev
end

section
set_option linter.unusedVariables false
set_option linter.unusedSimpArgs false
namespace Go.Ev
variable {P : Program} {cx : Cx} {w : World} {f : FM} {G : GM} {h : Hp}
theorem VRs_append {l1 l2 : List V} {a1 a2 : Array Value} (h1 : VRs w f G l1 (fun i => a1[i]?)) (h2 : VRs w f G l2 (fun i => a2[i]?)) (e1 : a1.size = l1.length) : VRs w f G (l1 ++ l2) (fun i => (a1 ++ a2)[i]?) := by
  refine VRs_iff.2 fun j v hj => ?_
  by_cases c : j < l1.length
  · rw [List.getElem?_append_left c] at hj
    obtain ⟨u, hu, hv⟩ := VRs_iff.1 h1 j v hj
    exact ⟨u, by rw [Array.getElem?_append_left (by omega)]; exact hu, hv⟩
  · rw [List.getElem?_append_right (by omega)] at hj
    obtain ⟨u, hu, hv⟩ := VRs_iff.1 h2 _ v hj
    exact ⟨u, by rw [Array.getElem?_append_right (by omega), e1]; exact hu, hv⟩
theorem setParams_ok : ∀ {ps : List Nat} {args : List V} {tm : List V} {as : List Value} {t : Array Value}, VRs w f G args (fun i => as[i]?) → as.length = args.length → t.size = tm.length → VRs w f G tm (fun i => t[i]?) →
    ((ps.zip as).foldl (fun (t : Array Value) (x : Nat × Value) => t.setIfInBounds x.1 x.2) t).size = (setParams ps args tm).length ∧ VRs w f G (setParams ps args tm) (fun i => ((ps.zip as).foldl (fun (t : Array Value) (x : Nat × Value) => t.setIfInBounds x.1 x.2) t)[i]?)
  | [], args, tm, as, t, _, _, hs, ht => by
    simp only [List.zip_nil_left, List.foldl_nil, setParams]
    exact ⟨hs, ht⟩
  | p :: ps, [], tm, [], t, _, _, hs, ht => by simpa [setParams] using ⟨hs, ht⟩
  | p :: ps, [], tm, a :: as, t, _, hl, _, _ => by simp at hl
  | p :: ps, v :: args, tm, [], t, _, hl, _, _ => by simp at hl
  | p :: ps, v :: args, tm, a :: as, t, ha, hl, hs, ht => by
    simp only [VRs] at ha
    obtain ⟨⟨u, e1, e2⟩, e3⟩ := ha
    simp only [List.getElem?_cons_zero, Option.some.injEq] at e1
    subst e1
    simp only [List.zip_cons_cons, List.foldl_cons, setParams]
    have := ActR.put (w := w) (f := f) (G := G) (a := { tmps := t, defers := [] }) (d := some p) (h := Hp.empty) ⟨hs, ht⟩ e2
    exact setParams_ok (by simpa using e3) (by simpa using hl) this.1 this.2
theorem alloc_ok (i : Inv w f G h) (o : Obj) : Stp w f G h (w.alloc o) f G h ∧ Inv (w.alloc o) f G h := by
  have hold : ∀ k, k < w.heap.size → (w.alloc o).heap[k]? = w.heap[k]? := fun k hk => heap_alloc_old w o k hk
  have hG : GKept G w (w.alloc o) := ⟨fun β k hk => hold k (i.gin β k hk), SKept.of_eq hold⟩
  exact ⟨⟨rfl, rfl, rfl, by simp, FLe.refl _, (fun b k s z e e0 => by rw [e] at e0; cases e0), GLe.refl _, fun _ _ h => .inl h, Nat.le_refl _, Nat.le_refl _, fun _ _ _ => rfl, fun k hk _ => hold k hk, hG.2⟩,
    ⟨i.dom, fun b k s z e => ⟨by have := (i.rng b k s z e).1; simp; omega, (i.rng b k s z e).2⟩, i.inj, fun β k hk => by have := i.gin β k hk; simp; omega, i.gup, fun b k s z o e hg => OR.mono (FLe.refl _) (GLe.refl _) hG (hold k (i.rng b k s z e).1) (i.rel b k s z o e hg)⟩⟩
theorem getLoop_ok {l : Nat} {lp : Loop} (h : w.heap[l]? = some (.loop lp)) : (Instr.getLoop l).run P w = .ok lp w := by simp only [Instr.getLoop, Sem.run_bind, getObj, Sem.run, h, Result.andThen_ok]; rfl
theorem setLoop_ok {l : Nat} {lp : Loop} (o : Obj) (h : w.heap[l]? = some (.loop lp)) : (setObj l o).run P w = .ok () (setBlk w l o) := by simp only [setObj, Sem.run, h]; rfl
/-- a loop's record is written anew -/
theorem loop_put (i : Inv w f G h) {b l s z : Nat} {lp : Lp} {lp0 : Loop} (hb : f b = some (l, s, z)) (hg : h.get b = some (.loop lp)) (hw : w.heap[l]? = some (.loop lp0)) (lp' : Lp) (lp1 : Loop)
    (h1 : lp1.state = lp'.st) (h2 : lp1.pending = lp'.pend) (h3 : lp1.tmps.size = lp'.tmps.length) (h4 : VRs w f G lp'.tmps (fun i => lp1.tmps[i]?)) (h5 : lp1.params.toList = lp'.params) (h6 : lp1.assign = lp'.assign) (h7 : lp1.body = lp'.body) :
    Stp w f G h (setBlk w l (.loop lp1)) f G (h.put b (.loop lp')) ∧ Inv (setBlk w l (.loop lp1)) f G (h.put b (.loop lp')) := by
  have hl := (i.rng b l s z hb).1
  exact put_ok i hb ⟨_, hg, rfl⟩ (.loop lp1) (.loop lp') (fun _ _ _ hy => by rw [hw] at hy; cases hy) fun hG => ⟨lp1, by rw [setBlk_get _ _ _ _ hl, if_pos rfl], h1, h2, h3, VRs.mono _ (FLe.refl _) (GLe.refl _) hG h4, h5, h6, h7⟩
section
variable {rec : Tk → Rs → Prop} {n : Nat}
/-- One round of a range over a function. -/
theorem yield_ok (hc : CxOk P cx) (H : ∀ t r, rec t r → Sound P cx n t r) {b : Nat} {args : List V} {h : Hp} {k : V → Hp → M} {res : Rs} (he : (callV cx (.yld b) args h k).runR rec res) :
    ∃ v h', KeepL h h' ∧ (k v h').runR rec res ∧ ∀ (r : Option Nat) (m : Nat) (w : World) (f : FM) (G : GM) (l s z : Nat) (args' : Array Value), Inv w f G h → f b = some (l, s, z) → args'.size = args.length → VRs w f G args (fun i => args'[i]?) →
      Upon (Fr r) m P (Res w f G h v h') ((Instr.yield l args').run P w) := by
  simp only [callV] at he
  split at he
  case h_2 => exact (run_no he).elim
  rename_i lp hg
  split at he
  case isFalse => exact (run_no he).elim
  rename_i hlen
  obtain ⟨r1, c1, he⟩ := run_call he
  have S1 := H _ _ c1
  unfold onAssign at he
  split at he
  case h_2 => exact (run_no he).elim
  rename_i s1
  split at he
  case h_2 => exact (run_no he).elim
  rename_i lp1 hg1
  split at he
  case h_2 => exact (run_no he).elim
  rename_i hst1
  obtain ⟨r2, c2, he⟩ := run_call he
  have S2 := H _ _ c2
  unfold onRound at he
  split at he
  case h_2 => exact (run_no he).elim
  rename_i e2 s2
  split at he
  case h_2 => exact (run_no he).elim
  rename_i lp2 hg2
  obtain ⟨K1, W1⟩ := S1
  obtain ⟨K2, W2⟩ := S2
  have kp1 : KeepL s1.h (s1.h.put b (.loop { lp1 with st := .busy })) := KeepL.put fun _ _ => ⟨_, rfl⟩
  have kp2 : KeepL s2.h (s2.h.put b (.loop { lp2 with st := (left e2).1, pend := (left e2).2 })) := KeepL.put fun _ _ => ⟨_, rfl⟩
  refine ⟨_, _, (K1.trans kp1).trans (K2.trans kp2), he, fun r m w f G l s z args' i hb hs ha => ?_⟩
  have hbn := i.dom b _ hb
  obtain ⟨lc, hw, g1, g2, g3, g4, g5, g6, g7⟩ := i.rel b l s z _ hb hg
  have hps : lc.params.size = lp.params.length := by rw [← g5]; simp
  have hfold : (lc.params.zip args').foldl (fun tmps (t, a) => tmps.setIfInBounds t a) lc.tmps = (lp.params.zip args'.toList).foldl (fun (t : Array Value) (x : Nat × Value) => t.setIfInBounds x.1 x.2) lc.tmps := by
    rw [← Array.foldl_toList, Array.toList_zip, g5]
  have hyield : (Instr.yield l args').run P w = .ok (.round l lc.fn ((lp.params.zip args'.toList).foldl (fun (t : Array Value) (x : Nat × Value) => t.setIfInBounds x.1 x.2) lc.tmps) lp.assign lp.body) w := by
    have hne : ¬ (args'.size ≠ lc.params.size) := by omega
    simp only [Instr.yield, Sem.run_bind, getLoop_ok hw, Result.andThen_ok, if_neg hne, Sem.run_pure, hfold, g6, g7]
  rw [hyield]
  have hsp := setParams_ok (w := w) (f := f) (G := G) (ps := lp.params) (args := args) (tm := lp.tmps) (as := args'.toList) (t := lc.tmps) (by simpa using ha) (by simpa using hs) g3 g4
  have ro : RoundOk f h (some l) := fun l' e => by cases e; exact ⟨b, s, z, lp, hb, hbn, hg⟩
  refine roundIn_of_wpIn (F := Fr r) trivial ?_
  have X := (W1 (some l) (m - 1) w f G { tmps := _, defers := [] } i ⟨hsp.1, hsp.2⟩ ro).wp
  refine wpIn_mono X fun x a1 w1 ⟨hx, f1, G1, ms, st1, i1, ac1, hd1, mk1⟩ => ?_
  subst hx
  have hb1 : f1 b = some (l, s, z) := st1.fle _ _ hb
  obtain ⟨lc1, hw1, q1, q2, q3, q4, q5, q6, q7⟩ := i1.rel b l s z _ hb1 hg1
  have hl1 := (i1.rng b l s z hb1).1
  have pu := loop_put i1 hb1 hg1 hw1 { lp1 with st := .busy } { lc1 with state := .busy } rfl q2 q3 q4 q5 q6 q7
  have hbegin : (Instr.beginRound l).run P w1 = .ok () (setBlk w1 l (.loop { lc1 with state := .busy })) := by
    simp only [Instr.beginRound, Sem.run_bind, getLoop_ok hw1, Result.andThen_ok, setLoop_ok _ hw1, q1, hst1, Sem.run_pure]
  refine ⟨_, hbegin, ?_⟩
  have ro2 : RoundOk f1 (s1.h.put b (.loop { lp1 with st := .busy })) (some l) := (ro.step st1.fle K1).step (FLe.refl _) kp1
  have X2 := (W2 (some l) (m - 1) _ f1 G1 a1 pu.2 (by exact ⟨ac1.1, VRs.step i1 pu.1 ac1.2⟩) ro2).wp
  have fin : ∀ (x : Exit) (a2 : Act) (w2 : World), PostC (setBlk w1 l (.loop { lc1 with state := .busy })) f1 G1 ⟨s1.tm, s1.h.put b (.loop { lp1 with st := .busy })⟩ a1.defers e2 s2 x a2 w2 →
      x = exitOf e2 ∧ ∃ x' w3, (Instr.endRound l (left e2).2).run P w2 = .ok (.bool (left e2).2.isNone) w3 ∧ Res w f G h (.bool (left e2).2.isNone) (s2.h.put b (.loop { lp2 with st := (left e2).1, pend := (left e2).2 })) x' w3 ∧ x' = .bool (left e2).2.isNone := by
    rintro x a2 w2 ⟨hx, f2, G2, ms2, st2, i2, ac2, hd2, mk2⟩
    have hb2 : f2 b = some (l, s, z) := st2.fle _ _ hb1
    obtain ⟨lc2, hw2, p1, p2, p3, p4, p5, p6, p7⟩ := i2.rel b l s z _ hb2 hg2
    have hst : (if (left e2).2.isNone then LoopState.ready else LoopState.done) = (left e2).1 := by cases e2 <;> rfl
    have pu2 := loop_put i2 hb2 hg2 hw2 { lp2 with st := (left e2).1, pend := (left e2).2 } { lc2 with state := if (left e2).2.isNone then .ready else .done, pending := (left e2).2 } hst rfl p3 p4 p5 p6 p7
    refine ⟨hx, _, _, ?_, ⟨f2, G2, (st1.trans pu.1).trans (st2.trans pu2.1), pu2.2, by simp only [VR]⟩, rfl⟩
    simp only [Instr.endRound, Sem.run_bind, getLoop_ok hw2, Result.andThen_ok, setLoop_ok _ hw2, Sem.run_pure]
  refine wpIn_mono X2 fun x a2 w2 hp => ?_
  obtain ⟨hx, x', w3, e1, e2', rfl⟩ := fin x a2 w2 hp
  subst hx
  cases e2 <;> exact ⟨_, w3, e1, _, rfl, e2'⟩
end
end Go.Ev
end

section
set_option linter.unusedVariables false
set_option linter.unusedSimpArgs false
namespace Go.Ev
variable {P : Program} {cx : Cx} {w : World} {f : FM} {G : GM} {h : Hp}
section
variable {rec : Tk → Rs → Prop} {n : Nat}
theorem callV_ok (hc : CxOk P cx) (H : ∀ t r, rec t r → Sound P cx n t r) {gv : V} {args : List V} {h : Hp} {k : V → Hp → M} {res : Rs} (he : (callV cx gv args h k).runR rec res) :
    ∃ v h', KeepL h h' ∧ (k v h').runR rec res ∧ ∀ (r : Option Nat) (m : Nat) (w : World) (f : FM) (G : GM) (gx : Value) (args' : Array Value), Inv w f G h → VR w f G gv gx → args'.size = args.length → VRs w f G args (fun i => args'[i]?) →
      Upon (Fr r) m P (Res w f G h v h') ((do let d ← Deferred.ofValue gx args'; invoke d.target d.args : Sem Next).run P w) := by
  have he0 := he
  unfold callV at he
  split at he
  · rename_i g first cap
    obtain ⟨v, h', hk, h1, h2⟩ := callF_ok hc H he
    refine ⟨v, h', hk, h1, fun r m w f G gx args' i hg hs ha => ?_⟩
    simp only [VR] at hg
    obtain ⟨a', c', rfl, e1, e2, e3, e4⟩ := hg
    have := h2 r m w f G (a' ++ args' ++ c') i (by simp; omega) (VRs_append (VRs_append e3 ha e1) e4 (by simp; omega))
    simpa [Deferred.ofValue, invoke] using this
  · rename_i b
    obtain ⟨v, h', hk, h1, h2⟩ := yield_ok hc H he0
    refine ⟨v, h', hk, h1, fun r m w f G gx args' i hg hs ha => ?_⟩
    simp only [VR] at hg
    obtain ⟨l, s, z, hb, rfl⟩ := hg
    have := h2 r m w f G l s z args' i hb hs ha
    simpa [Deferred.ofValue, invoke] using this
  · exact (run_no he).elim
theorem evCall_ok (hc : CxOk P cx) (H : ∀ t r, rec t r → Sound P cx n t r) {s : St} {c : Call} {k : V → Hp → M} {res : Rs} (he : (evCall cx s c k).runR rec res) :
    ∃ v h', KeepL s.h h' ∧ (k v h').runR rec res ∧ ∀ (r : Option Nat) (m : Nat) (w : World) (f : FM) (G : GM) (a : Act) (ty : Nat), Inv w f G s.h → ActR w f G s.tm a →
      Upon (Fr r) m P (Res w f G s.h v h') ((do let d ← resolve a.eval c ty; invoke d.target d.args : Sem Next).run P w) := by
  unfold evCall at he
  split at he
  · exact (run_no he).elim
  rename_i args hargs
  split at he
  · rename_i b hcal
    split at he
    case h_2 => exact (run_no he).elim
    rename_i v h' hb
    refine ⟨v, h', builtin_keep hb, he, fun r m w f G a ty i ha => ?_⟩
    obtain ⟨e1, e2⟩ := evs_arr ha hargs
    have := builtin_ok (cx := cx) hc.ty i (b := b) (ts := c.argTypes.toList) (ty := ty) (cs := c.args.map fun | .const _ => true | _ => false) (args := args) (args' := (c.args.map a.eval).toList) (v := v) (h' := h') (by simpa using e1) (by simpa using e2) hb
    have h2 := OpR.upon (P := P) (r := r) (n := m) this
    simp only [resolve, hcal, Sem.run_bind, Sem.run_pure, Result.andThen_ok, invoke]
    exact h2
  · rename_i g hcal
    split at he
    case h_2 => exact (run_no he).elim
    rename_i gv hg
    obtain ⟨v, h', hk, h1, h2⟩ := callV_ok hc H he
    refine ⟨v, h', hk, h1, fun r m w f G a ty i ha => ?_⟩
    obtain ⟨e1, e2⟩ := evs_arr ha hargs
    have := h2 r m w f G (a.eval g) (c.args.map a.eval) i (ev_ok ha hg) e1 e2
    simpa [resolve, hcal] using this
  · rename_i rcv mth hcal
    split at he
    case h_2 => exact (run_no he).elim
    rename_i t v0 hr
    split at he
    case h_2 => exact (run_no he).elim
    rename_i g hm
    obtain ⟨v, h', hk, h1, h2⟩ := callF_ok hc H he
    refine ⟨v, h', hk, h1, fun r m w f G a ty i ha => ?_⟩
    obtain ⟨e1, e2⟩ := evs_arr ha hargs
    have hrv := ev_ok ha hr
    simp only [VR] at hrv
    obtain ⟨u, hu, hv⟩ := hrv
    have hvs : VRs w f G (v0 :: args) (fun i => (#[u] ++ c.args.map a.eval)[i]?) := VRs_append (l1 := [v0]) (by simp only [VRs]; exact ⟨⟨u, by simp, hv⟩, trivial⟩) e2 (by simp)
    have := h2 r m w f G (#[u] ++ c.args.map a.eval) i (by rw [Array.size_append, e1]; exact Nat.add_comm _ _) hvs
    have hmr := hc.meth t mth g hm u w
    have hex : (#[a.eval rcv] ++ c.args.map a.eval).extract 1 (#[a.eval rcv] ++ c.args.map a.eval).size = c.args.map a.eval := by
      apply Array.ext'
      simp [List.take_of_length_le]
    have h0 : (#[a.eval rcv] ++ c.args.map a.eval)[0]? = some (.iface t u) := by
      rw [Array.getElem?_append_left (by simp), hu]
      rfl
    have hrun : (do let d ← resolve a.eval c ty; invoke d.target d.args : Sem Next).run P w = (callFunc g (#[u] ++ c.args.map a.eval)).run P w := by
      simp only [resolve, hcal, Sem.run_bind, Sem.run_pure, Result.andThen_ok, invoke, h0, hex, callMethod, run_program, hmr]
    rw [hrun]; exact this
theorem evOp_ok (hc : CxOk P cx) (H : ∀ t r, rec t r → Sound P cx n t r) {s : St} {o : Oper} {k : V → Hp → M} {res : Rs} (he : (evOp cx s o k).runR rec res) :
    ∃ v h', KeepL s.h h' ∧ (k v h').runR rec res ∧ ∀ (r : Option Nat) (m : Nat) (w : World) (f : FM) (G : GM) (a : Act), Inv w f G s.h → ActR w f G s.tm a →
      Upon (Fr r) m P (Res w f G s.h v h') ((o.semAt r a.eval).run P w) := by
  unfold evOp at he
  split at he
  · rename_i c hop
    obtain ⟨v, h', hk, h1, h2⟩ := evCall_ok hc H he
    refine ⟨v, h', hk, h1, fun r m w f G a i ha => ?_⟩
    rw [Oper.semAt_eq _ _ _ (fun c' e => by rw [hop] at e; cases e)]
    have := h2 r m w f G a o.type i ha
    simpa [execOp, hop] using this
  · rename_i hop
    split at he
    case h_2 => exact (run_no he).elim
    rename_i v h' hv
    refine ⟨v, h', opP_keep hv, he, fun r m w f G a i ha => ?_⟩
    rw [Oper.semAt_eq _ _ _ (fun c' e => by rw [e] at hv; cases hv)]
    exact OpR.upon (opP_ok hc.ty i ha hv)
theorem wanted_ok {ops : Array Oper} {tm : List V} {a : Act} (ha : ActR w f G tm a) (o : Oper) : Region.wanted o (yielded ops a.tmps) = wanted ops.toList tm o := by
  unfold Region.wanted wanted
  cases hg : o.guard with
  | none => rfl
  | some jw =>
    obtain ⟨j, want⟩ := jw
    simp only [yielded, Array.getElem?_toList]
    cases hj : ops[j]? with
    | none => rfl
    | some oj =>
      cases hd : oj.dst with
      | none => simp [hd]
      | some d =>
        simp only [hd, Option.bind_some]
        cases ht : tm[d]? with
        | none =>
          have : a.tmps[d]? = none := by
            rw [Array.getElem?_eq_none_iff, ha.1]
            exact List.getElem?_eq_none_iff.1 ht
          simp [Array.getD_eq_getD_getElem?, this]
        | some v =>
          obtain ⟨u, hu, hv⟩ := VRs_iff.1 ha.2 d v ht
          simp only [Array.getD_eq_getD_getElem?, hu, Option.getD_some]
          cases v <;> simp only [VR] at hv
          all_goals first
            | (subst hv; rfl)
            | (obtain ⟨_, _, _, _, rfl⟩ := hv; rfl)
            | (obtain ⟨_, _, _, _, rfl, _⟩ := hv; rfl)
            | (obtain ⟨_, _, _, _, _, rfl, _⟩ := hv; rfl)
            | (obtain ⟨_, _, _, _, _, _, rfl, _⟩ := hv; rfl)
            | (obtain ⟨_, _, rfl, _⟩ := hv; rfl)
            | (obtain ⟨_, rfl, _⟩ := hv; rfl)
            | (cases u with | bool b => exact absurd rfl (hv b) | _ => rfl)
end
end Go.Ev
end

section
set_option linter.unusedVariables false
set_option linter.unusedSimpArgs false
namespace Go.Ev
variable {P : Program} {cx : Cx} {w : World} {f : FM} {G : GM} {h : Hp}
def PostO (w : World) (f : FM) (G : GM) (s : St) (ds : List Deferred) (s' : St) (a' : Act) (w' : World) : Prop :=
  ∃ f' G', Stp w f G s.h w' f' G' s'.h ∧ Inv w' f' G' s'.h ∧ ActR w' f' G' s'.tm a' ∧ a'.defers = ds
theorem ActR.step {w' : World} {f' : FM} {G' : GM} {h' : Hp} {tm : List V} {a : Act} (i : Inv w f G h) (st : Stp w f G h w' f' G' h') (ha : ActR w f G tm a) : ActR w' f' G' tm a := ⟨ha.1, VRs.step i st ha.2⟩
theorem put_defers (a : Act) (d : Option Nat) (v : Value) : (a.put d v).defers = a.defers := by cases d <;> rfl
theorem stput_h (s : St) (d : Option Nat) (v : V) : (s.put d v).h = s.h := by cases d <;> rfl
section
variable {rec : Tk → Rs → Prop} {n : Nat}
theorem evOps_ok (hc : CxOk P cx) (H : ∀ t r, rec t r → Sound P cx n t r) {ops : Array Oper} {k : St → M} {res : Rs} : ∀ (l : List Oper) (s : St), (evOps cx ops.toList l s k).runR rec res →
    ∃ s', KeepL s.h s'.h ∧ (k s').runR rec res ∧ ∀ (r : Option Nat) (m : Nat) (w : World) (f : FM) (G : GM) (a : Act) (Q : Exit → Act → World → Prop), Inv w f G s.h → ActR w f G s.tm a → (∀ a' w', PostO w f G s a.defers s' a' w' → Q .normal a' w') →
      wpListIn (Fr r) m P ops Q l a w
  | [], s, he => ⟨s, KeepL.refl _, he, fun r m w f G a Q i ha hq => hq a w ⟨f, G, Stp.refl .., i, ha, rfl⟩⟩
  | o :: rest, s, he => by
    simp only [evOps] at he
    split at he
    · rename_i hw
      obtain ⟨v, h', k1, he1, U⟩ := evOp_ok hc H he
      obtain ⟨s', k2, he2, W⟩ := evOps_ok hc H rest _ he1
      refine ⟨s', k1.trans (by simpa [stput_h] using k2), he2, fun r m w f G a Q i ha hq => ?_⟩
      simp only [wpListIn, wanted_ok ha, hw, if_true]
      refine ⟨fun _ _ => trivial, (U r m w f G a i ha).upon fun x w1 ⟨f1, G1, st1, i1, v1⟩ => ?_⟩
      refine W r m w1 f1 G1 _ Q (by simpa [stput_h] using i1) ((ha.step i st1).put v1) fun a' w' ⟨f2, G2, st2, i2, ha2, hd2⟩ => hq a' w' ⟨f2, G2, st1.trans (by simpa [stput_h] using st2), i2, ha2, by rw [hd2, put_defers]⟩
    · rename_i hw
      obtain ⟨s', k2, he2, W⟩ := evOps_ok hc H rest _ he
      refine ⟨s', by simpa [stput_h] using k2, he2, fun r m w f G a Q i ha hq => ?_⟩
      simp only [wpListIn, wanted_ok ha, hw, if_false, Bool.false_eq_true]
      refine ⟨fun _ _ => trivial, ?_⟩
      refine W r m w f G _ Q (by simpa [stput_h] using i) ?_ fun a' w' ⟨f2, G2, st2, i2, ha2, hd2⟩ => hq a' w' ⟨f2, G2, by simpa [stput_h] using st2, i2, ha2, by rw [hd2, put_defers]⟩
      have := ActR.put (h := s.h) (d := o.dst) ha VR.und
      exact this
end
/-! ### What a function gives back -/
def resOne (tmps : Array Value) : ResultVar → Sem Value
  | .tmp t => pure (tmps.getD t undef)
  | .cell b t => do loadVar t (← asAddr (tmps.getD b undef))
theorem resV_ok (hc : TyOk P cx) {s : St} {a : Act} (i : Inv w f G s.h) (ha : ActR w f G s.tm a) : ∀ {l : List ResultVar} {vs : List V}, resV cx s l = some vs →
    ∃ us : List Value, (l.mapM (resOne a.tmps)).run P w = .ok us w ∧ us.length = vs.length ∧ VRs w f G vs (fun j => us[j]?)
  | [], vs, h => by
    simp only [resV, Option.some.injEq] at h
    subst h
    exact ⟨[], by simp, rfl, by simp [VRs]⟩
  | .tmp t :: l, vs, h => by
    simp only [resV] at h
    split at h
    case h_2 => cases h
    rename_i v l' hv hl
    cases h
    obtain ⟨u, hu, hr⟩ := VRs_iff.1 ha.2 t v hv
    obtain ⟨us, e1, e2, e3⟩ := resV_ok hc i ha hl
    refine ⟨u :: us, ?_, by simp [e2], ?_⟩
    · have h1 : (resOne a.tmps (.tmp t)).run P w = .ok u w := by simp [resOne, Array.getD_eq_getD_getElem?, hu]
      simp only [List.mapM_cons, Sem.run_bind, h1, e1, Result.andThen_ok, Sem.run_pure]
    · simp only [VRs]; exact ⟨⟨u, by simp, hr⟩, by simpa using e3⟩
  | .cell b t :: l, vs, h => by
    simp only [resV] at h
    split at h
    case h_2 => cases h
    rename_i p hp
    split at h
    case h_2 => cases h
    rename_i v l' hv hl
    cases h
    obtain ⟨u, hu, hr⟩ := VRs_iff.1 ha.2 b p hp
    obtain ⟨x, hx, hxv⟩ := loadAt_ok hc i hr hv
    obtain ⟨us, e1, e2, e3⟩ := resV_ok hc i ha hl
    have hptr : ∃ ad, u = .pointer (some ad) := by
      unfold loadAt at hv
      split at hv
      · cases hv
      · split at hv
        · simp only [VR] at hr; obtain ⟨_, _, _, _, rfl⟩ := hr; exact ⟨_, rfl⟩
        · simp only [VR] at hr; obtain ⟨_, _, _, _, _, _, rfl, _⟩ := hr; exact ⟨_, rfl⟩
        · cases hv
    obtain ⟨ad, rfl⟩ := hptr
    have hx' : (loadVar t ad).run P w = .ok x w := by simpa [Instr.loadAt, Instr.sureAddr] using hx
    refine ⟨x :: us, ?_, by simp [e2], ?_⟩
    · have h1 : (resOne a.tmps (.cell b t)).run P w = .ok x w := by simp [resOne, Array.getD_eq_getD_getElem?, hu, asAddr, hx']
      simp only [List.mapM_cons, Sem.run_bind, h1, e1, Result.andThen_ok, Sem.run_pure]
    · simp only [VRs]; exact ⟨⟨x, by simp, hxv⟩, by simpa using e3⟩
theorem results_ok (hc : TyOk P cx) {s : St} {a : Act} (i : Inv w f G s.h) (ha : ActR w f G s.tm a) {fn : Func} {vs : List V} (h : resV cx s fn.results.toList = some vs) :
    ∃ u, (results fn a.tmps).run P w = .ok u w ∧ VR w f G (tupV vs) u := by
  obtain ⟨us, e1, e2, e3⟩ := resV_ok hc i ha h
  have hrun : (results fn a.tmps).run P w = .ok (if h : us.toArray.size = 1 then us.toArray[0] else .tuple us.toArray) w := by
    have hl : (fun | .tmp t => pure (a.tmps.getD t undef) | .cell b t => do loadVar t (← asAddr (a.tmps.getD b undef)) : ResultVar → Sem Value) = resOne a.tmps := by
      funext x; cases x <;> rfl
    have hr : results fn a.tmps = (do let vs ← fn.results.mapM (resOne a.tmps); pure (if h : vs.size = 1 then vs[0] else .tuple vs)) := by rw [← hl]; rfl
    rw [hr]
    have hm : (fn.results.mapM (resOne a.tmps)).run P w = .ok us.toArray w := by
      rw [Array.mapM_eq_mapM_toList]
      simp [e1]
    simp only [Sem.run_bind, hm, Result.andThen_ok, Sem.run_pure]
  refine ⟨_, hrun, ?_⟩
  match vs, us, e2, e3 with
  | [], [], _, _ => simp [tupV, VR, VRs]
  | [v], [u], _, e3 =>
    simp only [VRs] at e3
    obtain ⟨⟨u', h1, h2⟩, _⟩ := e3
    simp only [List.getElem?_cons_zero, Option.some.injEq] at h1
    subst h1
    simpa [tupV] using h2
  | v1 :: v2 :: vs, u1 :: u2 :: us, e2, e3 =>
    simp only [tupV, VR]
    refine ⟨(u1 :: u2 :: us).toArray, by simp, by simp at e2; simp [e2], by simpa using e3⟩
end Go.Ev
end

section
set_option linter.unusedVariables false
set_option linter.unusedSimpArgs false
namespace Go.Ev
variable {P : Program} {cx : Cx} {w : World} {f : FM} {G : GM} {h : Hp}
/-! ### A function is left -/
theorem take_ok (i : Inv w f G h) {r : Nat} (h3 : w.heap[r]? = some (.deferred (some []))) (h4 : ∀ b s z, f b ≠ some (r, s, z)) (h5 : ∀ β, ¬ G β r) :
    (Instr.takeDeferred r).run P w = .ok [] (setBlk w r (.deferred none)) ∧ Inv (setBlk w r (.deferred none)) f G h ∧ GKept G w (setBlk w r (.deferred none)) := by
  have hr := (Array.getElem?_eq_some_iff.1 h3).1
  have hold : ∀ k, k ≠ r → (setBlk w r (.deferred none)).heap[k]? = w.heap[k]? := fun k hk => by rw [setBlk_get _ _ _ _ hr, if_neg hk]
  have hsk : SKept w (setBlk w r (.deferred none)) := fun k cc e fr hk => by
    by_cases ek : k = r
    · subst ek; rw [h3] at hk; cases hk
    · exact ⟨cc, e, fr, by rw [hold k ek, hk], rfl⟩
  have hG : GKept G w (setBlk w r (.deferred none)) := ⟨fun β k hk => hold k fun e => h5 β (e ▸ hk), hsk⟩
  have hs : (setBlk w r (.deferred none)).heap.size = w.heap.size := by simp [setBlk]
  refine ⟨?_, ⟨i.dom, fun b k s z e => by rw [hs]; exact i.rng b k s z e, i.inj, fun β k hk => by rw [hs]; exact i.gin β k hk, i.gup, fun b k s z o e hg => OR.mono (FLe.refl _) (GLe.refl _) hG (hold k fun e2 => h4 b s z (e2 ▸ e)) (i.rel b k s z o e hg)⟩, hG⟩
  simp only [Instr.takeDeferred, Sem.run_bind, getObj, setObj, Sem.run, h3, Result.andThen_ok]
  rfl
theorem Marks.take {base r : Nat} : ∀ {ds : List Deferred}, Marks base w f G ds → (∀ d' ∈ ds, d'.target ≠ .collected r) → Marks base (setBlk w r (.deferred none)) f G ds
  | [], _, _ => trivial
  | d :: ds, ⟨⟨q, h1, h2, h3, h4, h5, h6⟩, hd⟩, hn => by
    refine ⟨⟨q, h1, h2, ?_, h4, h5, h6⟩, Marks.take hd fun d' hm => hn d' (List.mem_cons_of_mem _ hm)⟩
    have hq : q ≠ r := fun e => hn d (by simp) (e ▸ h1)
    simp only [setBlk, Array.getElem?_setIfInBounds, if_neg (Ne.symm hq)]
    exact h3
theorem Stp.take {w0 : World} {f0 : FM} {G0 : GM} {h0 : Hp} (a : Stp w0 f0 G0 h0 w f G h) {r : Nat} (hb : w0.heap.size ≤ r) (h3 : w.heap[r]? = some (.deferred (some []))) : Stp w0 f0 G0 h0 (setBlk w r (.deferred none)) f G h := by
  have hr := (Array.getElem?_eq_some_iff.1 h3).1
  have hs : (setBlk w r (.deferred none)).heap.size = w.heap.size := by simp [setBlk]
  have hold : ∀ k, k ≠ r → (setBlk w r (.deferred none)).heap[k]? = w.heap[k]? := fun k hk => by rw [setBlk_get _ _ _ _ hr, if_neg hk]
  refine { a with os := a.os, tape := a.tape, output := a.output, size := by rw [hs]; exact a.size, old := fun k hk hf => by rw [hold k (by omega)]; exact a.old k hk hf, sk := a.sk.trans fun k cc e fr hk => ?_ }
  by_cases ek : k = r
  · subst ek; rw [h3] at hk; cases hk
  · exact ⟨cc, e, fr, by rw [hold k ek, hk], rfl⟩
theorem leaves_ok {F : Fence} {n : Nat} {fn : Func} {tm : List V} {a : Act} {R : Ending → World → Prop} {w0 : World} {f0 : FM} {G0 : GM} {h0 : Hp} :
    ∀ (ms : List Deferred) (w : World), Stp w0 f0 G0 h0 w f G h → Inv w f G h → ActR w f G tm a → Marks w0.heap.size w f G ms →
      (∀ w2, Stp w0 f0 G0 h0 w2 f G h → Inv w2 f G h → ActR w2 f G tm a → ∃ v, (results fn a.tmps).run P w2 = .ok v w2 ∧ R (.returned v) w2) → LeavesInM F n P fn a.tmps R ms .returning w
  | [], w, st, i, ha, _, k => by
    simp only [LeavesInM, LeavesIn]
    exact k w st i ha
  | d :: ms, w, st, i, ha, ⟨⟨r, h1, h2, h3, h4, h5, h6⟩, hd⟩, k => by
    obtain ⟨t1, t2, t3⟩ := take_ok (P := P) i h3 h4 h5
    refine ⟨by simp, .inl ⟨r, _, h1, t1, leaves_ok ms _ (st.take h2 h3) t2 ⟨ha.1, VRs.mono _ (FLe.refl _) (GLe.refl _) t3 ha.2⟩ (hd.take h6) k⟩⟩
theorem frame_ok {args : List V} {args' : Array Value} {fn : Func} (hs : args'.size = args.length) (ha : VRs w f G args (fun i => args'[i]?)) :
    ActR w f G (frameOf fn args) { tmps := args' ++ Array.replicate (fn.ntmps - args'.size) undef, defers := [] } := by
  refine ⟨by simp [frameOf, hs], ?_⟩
  simp only [frameOf, hs]
  refine VRs_append ha (VRs_iff.2 fun j v hj => ?_) hs
  rw [List.getElem?_replicate] at hj
  split at hj
  · rename_i hlt
    cases hj
    exact ⟨undef, by rw [Array.getElem?_replicate, if_pos hlt], VR.und⟩
  · cases hj
theorem Inv.empty (hg : ∀ β k, G β k → k < w.heap.size) (hu : ∀ k, G false k → G true k) : Inv w noF G Hp.empty :=
  ⟨fun b y e => by simp [noF] at e, fun b k s z e => by simp [noF] at e, fun b b' k s z s' z' e => by simp [noF] at e, hg, hu, fun b k s z o e => by simp [noF] at e⟩
section
variable {rec : Tk → Rs → Prop} {n : Nat}
theorem call_ok (hc : CxOk P cx) (H : ∀ t r, rec t r → Sound P cx n t r) {g : Nat} {args : List V} {h : Hp} {res : Rs} (he : (step cx (.call g args h)).runR rec res) : Sound P cx (n + 1) (.call g args h) res := by
  simp only [step] at he
  split at he
  case h_2 => exact (run_no he).elim
  rename_i fn hfn
  split at he
  case h_2 => exact (run_no he).elim
  rename_i c hb
  obtain ⟨r1, c1, he⟩ := run_call he
  have S := H _ _ c1
  have fin : ∀ e s1, r1 = .out e s1 → (e = .normal ∨ e = .ret) → ∀ vs, resV cx s1 fn.results.toList = some vs → res = .val (tupV vs) s1.h → Sound P cx (n + 1) (.call g args h) res := by
    rintro e s1 rfl hee vs hvs rfl
    obtain ⟨kl, W⟩ := S
    refine ⟨⟨fn, hfn, by simp [hb]⟩, kl, fun m w f G args' i hs ha => ?_⟩
    refine callsIn_of_wp_marks (F := Fence.wide) (hc.fn g fn hfn).1 hb trivial ?_
    refine wpIn_mono (W none m w f G _ i (frame_ok hs ha) (RoundOk.none _ _)).wp fun x a1 w1 ⟨hx, f1, G1, ms, st1, i1, ac1, hd1, mk1⟩ => ?_
    have hl : LeavesInM Fence.wide m P fn a1.tmps (fun e w' => ∃ x, e = .returned x ∧ Res w f G h (tupV vs) s1.h x w') a1.defers .returning w1 := by
      rw [hd1, List.append_nil]
      refine leaves_ok ms w1 st1 i1 ac1 mk1 fun w2 st2 i2 ac2 => ?_
      obtain ⟨u, hu, hv⟩ := results_ok hc.ty (s := s1) i2 ac2 hvs
      exact ⟨u, hu, u, rfl, f1, G1, st2, i2, hv⟩
    subst hx
    rcases hee with rfl | rfl <;> exact hl
  unfold onBody at he
  split at he
  · exact (run_no he).elim
  · rename_i e s1 hne
    split at he
    case h_2 => exact (run_no he).elim
    rename_i vs hvs
    simp only [M.runR] at he
    refine fin e s1 rfl ?_ vs hvs he
    cases e with
    | normal => exact .inl rfl
    | ret => exact .inr rfl
    | exit id => exact absurd rfl (hne id)
  · exact (run_no he).elim
theorem pcall_ok (hc : CxOk P cx) (H : ∀ t r, rec t r → Sound P cx n t r) {g : Nat} {args : List V} {res : Rs} (he : (step cx (.pcall g args)).runR rec res) : Sound P cx (n + 1) (.pcall g args) res := by
  simp only [step] at he
  split at he
  · rename_i v hv
    simp only [M.runR] at he
    subst he
    unfold specOf at hv
    split at hv
    · rename_i p hp
      exact hc.spec g p args v hp hv
    · cases hv
  split at he
  case h_2 => exact (run_no he).elim
  rename_i fn hfn
  split at he
  case h_2 => exact (run_no he).elim
  rename_i c hb
  obtain ⟨r1, c1, he⟩ := run_call he
  have S := H _ _ c1
  have fin : ∀ e s1, r1 = .out e s1 → (e = .normal ∨ e = .ret) → ∀ vs, resV cx s1 fn.results.toList = some vs → ∀ v, fz false s1.h fzDepth (tupV vs) = some v → res = .val v .empty → Sound P cx (n + 1) (.pcall g args) res := by
    rintro e s1 rfl hee vs hvs v hz rfl
    obtain ⟨kl, W⟩ := S
    refine ⟨⟨fn, hfn, by simp [hb]⟩, fun m w G args' hg hu hs ha => ?_⟩
    have i := Inv.empty (w := w) hg hu
    refine callsIn_of_wp_marks (F := Fence.wide) (hc.fn g fn hfn).1 hb trivial ?_
    refine wpIn_mono (W none m w noF G _ i (frame_ok hs ha) (RoundOk.none _ _)).wp fun x a1 w1 ⟨hx, f1, G1, ms, st1, i1, ac1, hd1, mk1⟩ => ?_
    have hl : LeavesInM Fence.wide m P fn a1.tmps (fun e w' => ∃ x, e = .returned x ∧ ∃ G', StpP w G w' G' ∧ VR w' noF G' v x) a1.defers .returning w1 := by
      rw [hd1, List.append_nil]
      refine leaves_ok ms w1 st1 i1 ac1 mk1 fun w2 st2 i2 ac2 => ?_
      obtain ⟨u, hu', hv⟩ := results_ok hc.ty (s := s1) i2 ac2 hvs
      have hfr : ∀ b k s z, f1 b = some (k, s, z) → w.heap.size ≤ k := fun b k s z e => by
        obtain ⟨_, x | ⟨b0, s0, z0, e0, _⟩⟩ := st2.fnew b k s z e rfl
        · exact x
        · cases e0
      refine ⟨u, hu', u, rfl, fun β k => G1 β k ∨ ∃ b s z, f1 b = some (k, s, z), ?_, ?_⟩
      · refine ⟨st2.os, st2.tape, st2.output, st2.size, fun β k hk => .inl (st2.gle β k hk), fun β k hk => ?_, fun β k hk => ?_, fun k hk => hk.imp (i2.gup k) id, fun k hk => st2.old k hk fun b s z e => by cases e⟩
        · rcases hk with hk | ⟨b, s, z, e⟩
          · exact st2.gnew β k hk
          · exact .inr (hfr b k s z e)
        · rcases hk with hk | ⟨b, s, z, e⟩
          · exact i2.gin β k hk
          · exact (i2.rng b k s z e).1
      · exact fz_ok i2 (fun β k hk => .inl hk) (fun k hk => hk.imp (i2.gup k) id) (fun b k s z e => .inr ⟨b, s, z, e⟩) _ _ _ _ hv hz
    subst hx
    rcases hee with rfl | rfl <;> exact hl
  unfold onBody at he
  split at he
  · exact (run_no he).elim
  · rename_i e s1 hne
    split at he
    case h_2 => exact (run_no he).elim
    rename_i vs hvs
    unfold shut at he
    split at he
    case h_2 => exact (run_no he).elim
    rename_i v hz
    simp only [M.runR] at he
    refine fin e s1 rfl ?_ vs hvs v hz he
    cases e with
    | normal => exact .inl rfl
    | ret => exact .inr rfl
    | exit id => exact absurd rfl (hne id)
  · exact (run_no he).elim
end
end Go.Ev
end
