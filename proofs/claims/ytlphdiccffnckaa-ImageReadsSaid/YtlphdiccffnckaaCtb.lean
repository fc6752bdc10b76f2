/- Regions that draw the order of their operations: any order comes to the same. -/
import Derived.Test.YtlphdiccffnckaaCta
namespace Go.Abs

/-- What an operation has to do with the entities. -/
inductive Tch where
  | no | read | write
  deriving DecidableEq

def AOp.tch (a : AOp) : Tch :=
  match a.o.op with
  | .move _ | .assign _ | .pick .. | .build .. | .binOp .. | .unOp .. | .convert .. | .makeFunc .. | .field .. | .index .. | .extract .. | .makeInterface .. => .no
  | .buildSlice .. | .makeSlice .. => if a.f == .own then .write else .no
  | .load .. | .fieldAddr .. => if a.f == .own then .no else .read
  | .nilCheck .. | .slice .. | .indexAddr .. => .read
  | .call c => match c.callee with
    | .value (.func _) => match a.f with
      | .non | .cln => .no
      | .lend => .read
      | _ => .write
    | .builtin .min | .builtin .max => .no
    | .builtin .len => .read
    | _ => .write
  | _ => .write

def opTmp : Operand → Option Nat
  | .tmp t => some t
  | _ => none

/-- The slots that an operation looks at. -/
def AOp.reads (a : AOp) : List Nat := a.o.op.operands.toList.filterMap opTmp ++ (match a.g with
  | some (g, _) => [g]
  | none => [])

def AOp.writes (a : AOp) (t : Nat) : Bool := match a.o.dst with
  | some d => Nat.beq d t
  | none => false

/-- The order of these matters. -/
def clash (a b : AOp) : Bool :=
  a.reads.any b.writes || b.reads.any a.writes || (match a.o.dst with
    | some d => b.writes d
    | none => false) || (match a.tch, b.tch with
    | .write, .write | .write, .read | .read, .write => true
    | _, _ => false)

def maskOf (a : AOp) (acc : List Nat) : Nat := a.o.after.toList.foldl (fun s e => if Region.binds .any e then (s ||| 2 ^ e.on) ||| (acc[e.on]?).getD 0 else s) 0
def befores : List AOp → List Nat → List Nat
  | [], acc => acc
  | a :: as, acc => befores as (acc ++ [maskOf a acc])

/-- Operations whose order matters come in one order alone. -/
def drawOk (ops : List AOp) : Bool :=
  let bs := befores ops []
  (List.range ops.length).all fun j => match ops[j]?, bs[j]? with
    | some b, some m => b.o.after.toList.all (fun e => !Region.binds .any e || decide (e.on < j)) && (List.range j).all fun i => match ops[i]? with
      | some a => !clash a b || m.testBit i
      | none => false
    | _, _ => false

def Closed (ops : List AOp) (S : Nat → Prop) : Prop := ∀ k o, ops[k]? = some o → S k → ∀ e ∈ o.o.after.toList, Region.binds .any e = true → S e.on

theorem maskOf_spec {ops : List AOp} {S : Nat → Prop} (hS : Closed ops S) {a : AOp} {acc : List Nat} (hacc : ∀ (k m : Nat) (o : AOp), acc[k]? = some m → ops[k]? = some o → (∀ e ∈ o.o.after.toList, Region.binds .any e = true → S e.on) → ∀ i, m.testBit i = true → S i)
    (hl : acc.length ≤ ops.length) (ha : ∀ e ∈ a.o.after.toList, Region.binds .any e = true → S e.on) : ∀ i, (maskOf a acc).testBit i = true → S i := by
  unfold maskOf
  have gen : ∀ (es : List Edge) (s : Nat), (∀ e ∈ es, Region.binds .any e = true → S e.on) → (∀ i, s.testBit i = true → S i) →
      ∀ i, (es.foldl (fun s e => if Region.binds .any e then (s ||| 2 ^ e.on) ||| (acc[e.on]?).getD 0 else s) s).testBit i = true → S i := by
    intro es
    induction es with
    | nil => exact fun s _ hs => hs
    | cons e es ih =>
      intro s he hs
      refine ih _ (fun e' h' => he e' (List.mem_cons_of_mem _ h')) ?_
      show ∀ i, (if Region.binds .any e then (s ||| 2 ^ e.on) ||| (acc[e.on]?).getD 0 else s).testBit i = true → S i
      split
      · rename_i hb
        have hon := he e (List.mem_cons_self ..) hb
        intro i hi
        simp only [Nat.testBit_or, Bool.or_eq_true] at hi
        rcases hi with (hi | hi) | hi
        · exact hs i hi
        · rw [Nat.testBit_two_pow] at hi
          simp at hi
          exact hi ▸ hon
        · cases hm : acc[e.on]? with
          | none => simp [hm] at hi
          | some m =>
            simp only [hm, Option.getD_some] at hi
            have hlt := (List.getElem?_eq_some_iff.1 hm).1
            have ho : ops[e.on]? = some (ops[e.on]'(by omega)) := List.getElem?_eq_getElem _
            exact hacc e.on m _ hm ho (hS e.on _ ho hon) i hi
      · exact hs
  exact gen _ 0 ha (fun i h => by simp at h)

theorem befores_spec {ops : List AOp} {S : Nat → Prop} (hS : Closed ops S) : ∀ (as : List AOp) (acc : List Nat), ops.drop acc.length = as → acc.length ≤ ops.length →
    (∀ (k m : Nat) (o : AOp), acc[k]? = some m → ops[k]? = some o → (∀ e ∈ o.o.after.toList, Region.binds .any e = true → S e.on) → ∀ i, m.testBit i = true → S i) →
    ∀ (k m : Nat) (o : AOp), (befores as acc)[k]? = some m → ops[k]? = some o → (∀ e ∈ o.o.after.toList, Region.binds .any e = true → S e.on) → ∀ i, m.testBit i = true → S i
  | [], acc, _, _, hacc => hacc
  | a :: as, acc, hd, hl, hacc => by
    have hi : ops[acc.length]? = some a := by
      have : (ops.drop acc.length)[0]? = some a := by rw [hd]; rfl
      simpa using this
    have hlt := (List.getElem?_eq_some_iff.1 hi).1
    refine befores_spec hS as (acc ++ [maskOf a acc]) ?_ (by simp; omega) ?_
    · rw [List.length_append, ← List.drop_drop, hd]; rfl
    · intro k m o hk ho he
      rcases getElem?_push hk with hk | ⟨rfl, rfl⟩
      · exact hacc k m o hk ho he
      · rw [hi] at ho
        cases ho
        exact maskOf_spec hS hacc hl he

theorem drawOk_spec {ops : List AOp} (h : drawOk ops = true) {S : Nat → Prop} (hS : Closed ops S) {i j : Nat} {a b : AOp} (hij : i < j) (hi : ops[i]? = some a) (hj : ops[j]? = some b) (hc : clash a b = true)
    (he : ∀ e ∈ b.o.after.toList, Region.binds .any e = true → S e.on) : S i := by
  unfold drawOk at h
  rw [List.all_eq_true] at h
  have h1 := h j (List.mem_range.2 (List.getElem?_eq_some_iff.1 hj).1)
  simp only [hj] at h1
  split at h1
  · rename_i b' m hb hm
    cases hb
    simp only [Bool.and_eq_true] at h1
    have h2 := List.all_eq_true.1 h1.2 i (List.mem_range.2 hij)
    simp only [hi, hc, Bool.not_true, Bool.false_or] at h2
    exact befores_spec hS ops [] rfl (Nat.zero_le _) (fun k m o hk => by simp at hk) j m b hm hj he i h2
  · cases h1

theorem drawOk_edge {ops : List AOp} (h : drawOk ops = true) {j : Nat} {b : AOp} (hj : ops[j]? = some b) : ∀ e ∈ b.o.after.toList, Region.binds .any e = true → e.on < j := by
  unfold drawOk at h
  rw [List.all_eq_true] at h
  have h1 := h j (List.mem_range.2 (List.getElem?_eq_some_iff.1 hj).1)
  simp only [hj] at h1
  split at h1
  · rename_i b' m hb hm
    cases hb
    simp only [Bool.and_eq_true] at h1
    intro e he hb
    have h2 := List.all_eq_true.1 h1.1 e he
    simpa [hb] using h2
  · cases h1

section
variable {P : Program} {E : Env} {C : CF} {Y : List YF} {L : List Nat} {F : Fence} {nt : Nat} {X0 : Cx}

/-- An operation asks for its operands alone. -/
theorem aopW_congr {ρ ρ' : Operand → AV} {a : AOp} (h : ∀ x ∈ a.o.op.operands, ρ x = ρ' x) (b : Nat) (H : List Ent) : aopW E C Y ρ a b H = aopW E C Y ρ' a b H := by
  unfold aopW
  cases hop : a.o.op <;> rw [hop] at h <;> simp only [Op.operands] at h <;> try rfl
  case build t ps =>
    have : (ps.toList.map fun p => (p.1, ρ p.2)) = ps.toList.map fun p => (p.1, ρ' p.2) := List.map_congr_left fun p hp => by rw [h p.2 (by simpa using ⟨p.1, by simpa using hp⟩)]
    simp only [this]
  case buildSlice t n ps =>
    have : (ps.toList.map fun p => (p.1, ρ p.2)) = ps.toList.map fun p => (p.1, ρ' p.2) := List.map_congr_left fun p hp => by rw [h p.2 (by simpa using ⟨p.1, by simpa using hp⟩)]
    simp only [this]
  case makeFunc fn first caps =>
    have : caps.toList.map ρ = caps.toList.map ρ' := List.map_congr_left fun p hp => h p (by simp at hp; simp [hp])
    simp only [this]
  case slice t x l hi m =>
    have h1 : ρ x = ρ' x := h x (by simp)
    have h2 : l.map ρ = l.map ρ' := by cases l with
      | none => rfl
      | some y => simp [h y (by simp)]
    have h3 : hi.map ρ = hi.map ρ' := by cases hi with
      | none => rfl
      | some y => simp [h y (by simp)]
    have h4 : m.map ρ = m.map ρ' := by cases m with
      | none => rfl
      | some y => simp [h y (by simp)]
    simp only [h1, h2, h3, h4]
  case call c =>
    have ha : c.args.toList.map ρ = c.args.toList.map ρ' := List.map_congr_left fun p hp => h p (by simp only [Array.mem_toList_iff] at hp; unfold Call.operands; split <;> simp [hp])
    cases hc : c.callee with
    | value f =>
      have hf : ρ f = ρ' f := h f (by unfold Call.operands; simp [hc])
      simp only [ha, hc, hf]
    | builtin bi => simp only [ha, hc]
    | invoke _ _ => simp only [hc]
  all_goals first
    | (rename_i x y z; simp only [h x (by simp), h y (by simp), h z (by simp)])
    | (rename_i x y; simp only [h x (by simp), h y (by simp)])
    | (rename_i x y _; simp only [h x (by simp), h y (by simp)])
    | (rename_i x; simp only [h x (by simp)])
    | (rename_i x _; simp only [h x (by simp)])

/-- What has to do with no entity goes the same way whatever they are. -/
theorem aopW_no {ρ : Operand → AV} (hρ : ∀ g, ρ (.func g) = .fn g []) {a : AOp} (ht : a.tch = .no) {b : Nat} {H : List Ent} {v : AV} {H1 : List Ent} (h : aopW E C Y ρ a b H = some (.val v H1)) : H1 = H ∧ ∀ H', aopW E C Y ρ a b H' = some (.val v H') := by
  have okc : ∀ {q : Option AV}, Go.Abs.ok H q = some (.val v H1) → H1 = H ∧ ∀ H', Go.Abs.ok H' q = some (.val v H') := by
    intro q hq
    cases q with
    | none => simp [Go.Abs.ok] at hq
    | some q' => simp only [Go.Abs.ok, Option.some.injEq, OR.val.injEq] at hq; exact ⟨hq.2.symm, fun H' => by simp [Go.Abs.ok, hq.1]⟩
  unfold AOp.tch at ht
  unfold aopW at h ⊢
  cases hop : a.o.op <;> simp only [hop] at h ht ⊢ <;> try (cases ht; done)
  case move => cases h; exact ⟨rfl, fun _ => rfl⟩
  case assign => cases h; exact ⟨rfl, fun _ => rfl⟩
  case pick =>
    split at h
    · cases h; exact ⟨rfl, fun _ => rfl⟩
    · cases h
  case build => exact okc h
  case buildSlice =>
    split at ht
    · cases ht
    · rename_i hown
      split at h
      · cases h
      · split at h
        · cases h
        · rw [if_neg hown] at h
          cases h
          exact ⟨rfl, fun _ => by simp [hown]⟩
  case binOp => exact okc h
  case unOp => exact okc h
  case convert => exact okc h
  case makeInterface =>
    split at h
    · rename_i hi; cases h; exact ⟨rfl, fun _ => by simp [hi]⟩
    · cases h
  case makeFunc =>
    split at h
    · split at h
      · rename_i hi; cases h; exact ⟨rfl, fun _ => by simp [hi]⟩
      · cases h
    · cases h
  case makeSlice t l c =>
    split at ht
    · cases ht
    · rename_i hown
      have hown : (a.f == Fl.own) = false := by simpa using hown
      rw [hown] at h ⊢
      unfold aMake at h ⊢
      split at h
      · split at h
        · rename_i hc
          simp only [Bool.false_eq_true, if_false] at h ⊢
          split at h
          · rename_i hlc
            cases h
            exact ⟨rfl, fun _ => by simp only [if_pos hc, if_pos hlc, okH]⟩
          · simp [okH] at h
        · simp [okH] at h
      · simp [okH] at h
  case field => exact okc h
  case index => exact okc h
  case load t x =>
    split at ht
    · rename_i hf
      split at h
      · cases h
      · rename_i hn
        obtain ⟨cs, hx⟩ : ∃ cs, ρ x = .fp cs := by
          cases hx : ρ x <;> simp [AV.isFp, hx, hf] at hn
          exact ⟨_, rfl⟩
        rw [hx] at h hn ⊢
        obtain ⟨h1, h2⟩ := okc h
        exact ⟨h1, fun H' => by rw [if_neg hn]; exact h2 H'⟩
    · cases ht
  case fieldAddr t x k =>
    split at ht
    · rename_i hf
      split at h
      · cases h
      · rename_i hn
        obtain ⟨cs, hx⟩ : ∃ cs, ρ x = .fp cs := by
          cases hx : ρ x <;> simp [AV.isFp, hx, hf] at hn
          exact ⟨_, rfl⟩
        rw [hx] at h hn ⊢
        obtain ⟨h1, h2⟩ := okc h
        exact ⟨h1, fun H' => by rw [if_neg hn]; exact h2 H'⟩
    · cases ht
  case extract =>
    split at h
    · exact okc h
    · cases h
  case call c =>
    cases hc : c.callee with
    | value f =>
      simp only [hc] at h ht ⊢
      cases f with
      | func g =>
        simp only at ht
        split at ht
        · rename_i hf
          simp only [hρ, hf, aCallFn] at h ⊢
          split at h
          · rename_i hpp
            split at h
            · split at h
              · rename_i hcall _ hv
                cases h
                exact ⟨rfl, fun _ => by simp only [if_pos hpp, hv]⟩
              · cases h
            · split at h
              · cases h
              · cases h
            · cases h
          · cases h
        · rename_i hf
          simp only [hρ, hf, aCallFn] at h ⊢
          split at h
          · rename_i hpp
            simp only [if_pos hpp]
            split at h
            · split at h
              · rename_i hb
                cases h
                exact ⟨rfl, fun _ => by rw [if_pos hb]⟩
              · cases h
            · rename_i hne
              have hb : ∀ {as H v H1}, bareCall C g as H = some (.val v H1) → H1 = H ∧ ∀ H', bareCall C g as H' = some (.val v H') := by
                intro as H v H1 h
                unfold bareCall at h
                split at h
                · rename_i hcall
                  split at h
                  · rename_i hv
                    cases h
                    exact ⟨rfl, fun _ => by unfold bareCall; simp only [hcall, hv]⟩
                  · cases h
                · split at h <;> cases h
                · cases h
              exact hb h
          · cases h
        · cases ht
        · cases ht
      | tmp t => cases ht
      | const v => cases ht
      | global g => cases ht
    | builtin bi =>
      simp only [hc] at h ht ⊢
      cases bi <;> simp only at ht <;> try (cases ht; done)
      all_goals
        generalize c.args.toList.map ρ = l at h ⊢
        rcases l with _ | ⟨x, _ | ⟨y, _ | ⟨z, l⟩⟩⟩ <;> simp only [aBuiltin] at h ⊢ <;> first | exact okc h | cases h
    | invoke _ _ => simp only [hc] at ht; cases ht

/-- What only looks at the entities leaves them. -/
theorem aopW_read {ρ : Operand → AV} (hρ : ∀ g, ρ (.func g) = .fn g []) {a : AOp} (ht : a.tch = .read) {b : Nat} {H : List Ent} {r : OR} (h : aopW E C Y ρ a b H = some r) : r.ents = H := by
  unfold AOp.tch at ht
  unfold aopW at h
  cases hop : a.o.op <;> simp only [hop] at h ht <;> try (cases ht; done)
  case load =>
    split at h
    · cases h
    · exact ok_ents h
  case nilCheck =>
    split at h
    · cases h; rfl
    · cases h
  case slice => exact ok_ents h
  case fieldAddr =>
    split at h
    · cases h
    · exact ok_ents h
  case indexAddr => exact ok_ents h
  case buildSlice => split at ht <;> cases ht
  case makeSlice => split at ht <;> cases ht
  case call c =>
    cases hc : c.callee with
    | value f =>
      simp only [hc] at h ht
      cases f with
      | func g =>
        simp only at ht
        split at ht
        · cases ht
        · cases ht
        · rename_i hf
          simp only [hρ, hf, aCallFn] at h
          split at h
          · cases h
          · split at h
            · split at h
              · split at h
                · cases h; rfl
                · cases h
              · cases h
            · cases h
        · cases ht
      | tmp t => cases ht
      | const v => cases ht
      | global g => cases ht
    | builtin bi =>
      simp only [hc] at h ht
      cases bi <;> simp only at ht <;> try (cases ht; done)
      generalize c.args.toList.map ρ = l at h
      rcases l with _ | ⟨x, _ | ⟨y, l⟩⟩ <;> simp only [aBuiltin] at h
      · cases h
      · split at h
        · exact ok_ents h
        · cases h
      · cases h
    | invoke _ _ => simp only [hc] at ht; cases ht

/-- The way through the operations, as they stand. -/
theorem runOps_way : ∀ {as : List AOp} {st st' : St}, runOps E C Y as st = some (.normal, st') → ∃ tr : Nat → St, tr 0 = st ∧ tr as.length = st' ∧ ∀ i ao, as[i]? = some ao → stepOp E C Y ao (tr i) = some (.normal, tr (i + 1))
  | [], st, st', h => by cases h; exact ⟨fun _ => st, rfl, rfl, fun i ao h => by simp at h⟩
  | a :: as, st, st', h => by
    simp only [runOps] at h
    split at h
    · rename_i st1 h1
      obtain ⟨tr, h2, h3, h4⟩ := runOps_way h
      refine ⟨fun i => if i = 0 then st else tr (i - 1), rfl, by simpa using h3, fun i ao hi => ?_⟩
      cases i with
      | zero =>
        simp at hi
        subst hi
        simpa [h2] using h1
      | succ i => simpa using h4 i ao (by simpa using hi)
    · rename_i hnot
      exact absurd h (hnot st')

def AOp.guarded (a : AOp) (tm : Slots) : Prop := a.g = none ∨ ∃ g w, a.g = some (g, w) ∧ tm.get g = .sc (.bool w)

/-- A guard's value by which an operation is passed over. -/
def skips : Value → Bool → Prop
  | .bool t, w => t ≠ w
  | .tuple _, _ => True
  | _, _ => False

theorem stepOp_cases {a : AOp} {st st' : St} (h : stepOp E C Y a st = some (.normal, st')) :
    (a.guarded st.tm ∧ ∃ v, aop E C Y a st.b st.tm st.H = some (.val v st'.H) ∧ st' = { st with tm := setDst a.o.dst v st.tm, H := st'.H }) ∨
    (∃ g w u, a.g = some (g, w) ∧ st.tm.get g = .sc u ∧ skips u w ∧ st' = { st with tm := setDst a.o.dst (.sc undef) st.tm }) := by
  have go : (match aop E C Y a st.b st.tm st.H with
        | some (.val v H) => some (Ex.normal, { st with tm := setDst a.o.dst v st.tm, H := H })
        | some (.pan v H) => some (Ex.pan v, { st with H := H })
        | none => none) = some (.normal, st') → ∃ v, aop E C Y a st.b st.tm st.H = some (.val v st'.H) ∧ st' = { st with tm := setDst a.o.dst v st.tm, H := st'.H } := by
    intro h
    split at h
    · rename_i v H ha
      cases h
      exact ⟨v, ha, rfl⟩
    · cases h
    · cases h
  unfold stepOp at h
  split at h
  · rename_i hg
    exact .inl ⟨.inl hg, go h⟩
  · rename_i g w hg
    split at h
    · rename_i t ht
      split at h
      · rename_i htw
        exact .inl ⟨.inr ⟨g, w, hg, htw ▸ ht⟩, go h⟩
      · rename_i htw
        cases h
        exact .inr ⟨g, w, .bool t, hg, ht, htw, rfl⟩
    · rename_i vs ht
      cases h
      exact .inr ⟨g, w, .tuple vs, hg, ht, trivial, rfl⟩
    · cases h

theorem setDst_other {a : AOp} {t : Nat} (h : a.writes t = false) (v : AV) (tm : Slots) : (setDst a.o.dst v tm).get t = tm.get t := by
  unfold AOp.writes at h
  cases hd : a.o.dst with
  | none => rfl
  | some d =>
    rw [hd] at h
    simp only [setDst, get_put]
    rw [if_neg (fun e => by subst e; simp at h)]

theorem setDst_this {a : AOp} {t : Nat} (h : a.writes t = true) (v : AV) (tm : Slots) : a.o.dst = some t ∧ (setDst a.o.dst v tm).get t = v := by
  unfold AOp.writes at h
  cases hd : a.o.dst with
  | none => rw [hd] at h; cases h
  | some d =>
    rw [hd] at h
    have := Nat.eq_of_beq_eq_true h
    subst this
    exact ⟨rfl, by simp [setDst, get_put]⟩

theorem stepOp_slot {a : AOp} {st st' : St} (h : stepOp E C Y a st = some (.normal, st')) {t : Nat} (ht : a.writes t = false) : st'.tm.get t = st.tm.get t := by
  rcases stepOp_cases h with ⟨_, v, _, he⟩ | ⟨g, w, t', _, _, _, he⟩ <;> rw [he] <;> exact setDst_other ht _ _

theorem aval_fn (G : Nat → AV) (tm : Slots) : ∀ g, aval G tm (.func g) = .fn g [] := fun _ => rfl

theorem stepOp_ents {a : AOp} {st st' : St} (h : stepOp E C Y a st = some (.normal, st')) (ht : a.tch ≠ .write) : st'.H = st.H := by
  rcases stepOp_cases h with ⟨_, v, ha, _⟩ | ⟨g, w, t', _, _, _, he⟩
  · cases hc : a.tch with
    | no => exact (aopW_no (aval_fn _ _) hc ha).1
    | read => exact aopW_read (aval_fn _ _) hc ha
    | write => exact absurd hc ht
  · rw [he]

/-- The slots that an operation looks at, as they are on the way. -/
def onlyOf (ts : List Nat) (tm : Slots) : Slots := ts.map fun t => (t, tm.get t)
theorem onlyOf_get (tm : Slots) : ∀ (ts : List Nat) (t : Nat), (onlyOf ts tm).get t = tm.get t ∧ t ∈ ts ∨ (onlyOf ts tm).get t = .und
  | [], t => .inr rfl
  | s :: ts, t => by
    by_cases h : s = t
    · subst h
      exact .inl ⟨by simp [onlyOf, Slots.get], by simp⟩
    · rcases onlyOf_get tm ts t with ⟨h1, h2⟩ | h1
      · refine .inl ⟨?_, List.mem_cons_of_mem _ h2⟩
        simp only [onlyOf, List.map_cons, Slots.get, beq_ne h, cond_false]
        exact h1
      · refine .inr ?_
        simp only [onlyOf, List.map_cons, Slots.get, beq_ne h, cond_false]
        exact h1
theorem onlyOf_mem (tm : Slots) : ∀ {ts : List Nat} {t : Nat}, t ∈ ts → (onlyOf ts tm).get t = tm.get t
  | s :: ts, t, h => by
    by_cases hs : s = t
    · subst hs; simp [onlyOf, Slots.get]
    · have h2 : t ∈ ts := by
        rcases List.mem_cons.1 h with h | h
        · exact absurd h.symm hs
        · exact h
      simp only [onlyOf, List.map_cons, Slots.get, beq_ne hs, cond_false]
      exact onlyOf_mem tm h2

theorem aop_only (a : AOp) (b : Nat) (tm : Slots) (H : List Ent) : aop E C Y a b (onlyOf a.reads tm) H = aop E C Y a b tm H := by
  refine aopW_congr (fun x hx => ?_) b H
  cases x with
  | tmp t => exact onlyOf_mem tm (List.mem_append_left _ (List.mem_filterMap.2 ⟨.tmp t, by simpa using hx, rfl⟩))
  | const v => rfl
  | global g => rfl
  | func f => rfl

/-- How many have not come yet. -/
def cnt (listed : Array Bool) : Nat → Nat
  | 0 => 0
  | n + 1 => cnt listed n + if listed.getD n false then 0 else 1

theorem cnt_zero {listed : Array Bool} : ∀ {n : Nat}, cnt listed n = 0 → ∀ j, j < n → listed.getD j false = true
  | n + 1, h, j, hj => by
    simp only [cnt] at h
    by_cases hn : j = n
    · subst hn
      by_cases hl : listed.getD j false = true
      · exact hl
      · rw [if_neg hl] at h; omega
    · have h0 : cnt listed n = 0 := by omega
      exact cnt_zero h0 j (by omega)

theorem cnt_first {listed : Array Bool} : ∀ {n : Nat}, cnt listed n ≠ 0 → ∃ j, j < n ∧ listed.getD j false = false ∧ ∀ i, i < j → listed.getD i false = true
  | 0, h => absurd rfl h
  | n + 1, h => by
    by_cases hz : cnt listed n = 0
    · refine ⟨n, by omega, ?_, fun i hi => cnt_zero hz i hi⟩
      simp only [cnt, hz] at h
      cases hl : listed.getD n false with
      | false => rfl
      | true => rw [if_pos hl] at h; simp at h
    · obtain ⟨j, h1, h2, h3⟩ := cnt_first hz
      exact ⟨j, by omega, h2, h3⟩

theorem getD_set_same {listed : Array Bool} {i : Nat} (h : i < listed.size) : (listed.setIfInBounds i true).getD i false = true := by
  simp [Array.getD_eq_getD_getElem?, h]

theorem cnt_set {listed : Array Bool} {i : Nat} (hi : i < listed.size) (hl : listed.getD i false = false) : ∀ n, cnt listed n = cnt (listed.setIfInBounds i true) n + if i < n then 1 else 0
  | 0 => rfl
  | n + 1 => by
    have ih := cnt_set hi hl n
    simp only [cnt]
    by_cases hn : i = n
    · subst hn
      rw [getD_set_same hi, hl, ih]
      simp
    · rw [getD_set_ne false hn, ih]
      by_cases h1 : i < n
      · have h2 : i < n + 1 := by omega
        simp only [if_pos h1, if_pos h2]; omega
      · have h2 : ¬ i < n + 1 := by omega
        simp only [if_neg h1, if_neg h2]; omega

theorem cnt_replicate (m : Nat) : ∀ n, n ≤ m → cnt (Array.replicate m false) n = n
  | 0, _ => rfl
  | n + 1, h => by
    simp only [cnt, cnt_replicate m n (by omega)]
    simp [Array.getD_eq_getD_getElem?, show n < m from by omega]

/-- The machine stands where all operations of S have come. -/
structure Mid (X0 : Cx) (L : List Nat) (nt : Nat) (ops : List AOp) (tr : Nat → St) (S : Nat → Prop) (a : Act) (X : Cx) : Prop where
  ok : X.Ok
  trans : Trans X0 X
  size : nt ≤ a.tmps.size
  ref : RefL X0.E.length X0.H X.H
  defs : DefOk X0 a.defers X
  slots : ∀ t, ∃ k, k ≤ ops.length ∧ (∀ j o, ops[j]? = some o → o.writes t = true → (j < k ↔ S j)) ∧ VRel X L ((tr k).tm.get t) (a.tmps.getD t undef)
  ents : ∃ k, k ≤ ops.length ∧ (∀ j o, ops[j]? = some o → o.tch = .write → (j < k ↔ S j)) ∧ X.H = (tr k).H

section
variable {ops : List AOp} {tr : Nat → St}

theorem way_slot (hw : ∀ i ao, ops[i]? = some ao → stepOp E C Y ao (tr i) = some (.normal, tr (i + 1))) (t : Nat) : ∀ (d k : Nat), k + d ≤ ops.length → (∀ j o, ops[j]? = some o → o.writes t = true → (j < k ↔ j < k + d)) → (tr (k + d)).tm.get t = (tr k).tm.get t
  | 0, k, _, _ => rfl
  | d + 1, k, hk, h => by
    have ho : ops[k + d]? = some (ops[k + d]'(by omega)) := List.getElem?_eq_getElem _
    have hn : (ops[k + d]'(by omega)).writes t = false := by
      cases hwr : (ops[k + d]'(by omega)).writes t with
      | false => rfl
      | true => have := h (k + d) _ ho hwr; omega
    have h1 := stepOp_slot (hw (k + d) _ ho) hn
    rw [← Nat.add_assoc, h1]
    refine way_slot hw t d k (by omega) fun j o hj hwr => ?_
    have h2 := h j o hj hwr
    have : j ≠ k + d := fun e => by subst e; rw [ho] at hj; cases hj; rw [hn] at hwr; cases hwr
    omega

theorem way_slot' (hw : ∀ i ao, ops[i]? = some ao → stepOp E C Y ao (tr i) = some (.normal, tr (i + 1))) {t k k' : Nat} (hk : k ≤ ops.length) (hk' : k' ≤ ops.length) (h : ∀ j o, ops[j]? = some o → o.writes t = true → (j < k ↔ j < k')) : (tr k').tm.get t = (tr k).tm.get t := by
  rcases Nat.le_total k k' with hl | hl
  · obtain ⟨d, rfl⟩ := Nat.exists_eq_add_of_le hl
    exact way_slot hw t d k hk' h
  · obtain ⟨d, rfl⟩ := Nat.exists_eq_add_of_le hl
    exact (way_slot hw t d k' hk fun j o hj hwr => (h j o hj hwr).symm).symm

theorem way_ents (hw : ∀ i ao, ops[i]? = some ao → stepOp E C Y ao (tr i) = some (.normal, tr (i + 1))) : ∀ (d k : Nat), k + d ≤ ops.length → (∀ j o, ops[j]? = some o → o.tch = .write → (j < k ↔ j < k + d)) → (tr (k + d)).H = (tr k).H
  | 0, k, _, _ => rfl
  | d + 1, k, hk, h => by
    have ho : ops[k + d]? = some (ops[k + d]'(by omega)) := List.getElem?_eq_getElem _
    have hn : (ops[k + d]'(by omega)).tch ≠ .write := fun hwr => by have := h (k + d) _ ho hwr; omega
    have h1 := stepOp_ents (hw (k + d) _ ho) hn
    rw [← Nat.add_assoc, h1]
    refine way_ents hw d k (by omega) fun j o hj hwr => ?_
    have h2 := h j o hj hwr
    have : j ≠ k + d := fun e => by subst e; rw [ho] at hj; cases hj; exact hn hwr
    omega

theorem way_ents' (hw : ∀ i ao, ops[i]? = some ao → stepOp E C Y ao (tr i) = some (.normal, tr (i + 1))) {k k' : Nat} (hk : k ≤ ops.length) (hk' : k' ≤ ops.length) (h : ∀ j o, ops[j]? = some o → o.tch = .write → (j < k ↔ j < k')) : (tr k').H = (tr k).H := by
  rcases Nat.le_total k k' with hl | hl
  · obtain ⟨d, rfl⟩ := Nat.exists_eq_add_of_le hl
    exact way_ents hw d k hk' h
  · obtain ⟨d, rfl⟩ := Nat.exists_eq_add_of_le hl
    exact (way_ents hw d k' hk fun j o hj hwr => (h j o hj hwr).symm).symm

theorem way_b (hw : ∀ i ao, ops[i]? = some ao → stepOp E C Y ao (tr i) = some (.normal, tr (i + 1))) : ∀ k, k ≤ ops.length → (tr k).b = (tr 0).b
  | 0, _ => rfl
  | k + 1, hk => by
    have ho : ops[k]? = some (ops[k]'(by omega)) := List.getElem?_eq_getElem _
    rw [← way_b hw k (by omega)]
    rcases stepOp_cases (hw k _ ho) with ⟨_, v, _, he⟩ | ⟨g, w, t', _, _, _, he⟩ <;> rw [he]

theorem clash_reads {a b : AOp} {t : Nat} (h1 : t ∈ a.reads) (h2 : b.writes t = true) : clash a b = true ∧ clash b a = true := by
  have h : a.reads.any b.writes = true := List.any_eq_true.2 ⟨t, h1, h2⟩
  simp [clash, h]

theorem clash_dst {a b : AOp} {t : Nat} (h1 : a.writes t = true) (h2 : b.writes t = true) : clash a b = true := by
  obtain ⟨hd, _⟩ := setDst_this h1 .und []
  simp [clash, hd, h2]

theorem clash_tch {a b : AOp} (h : a.tch = .write ∧ b.tch ≠ .no ∨ a.tch ≠ .no ∧ b.tch = .write) : clash a b = true := by
  unfold clash
  cases ha : a.tch <;> cases hb : b.tch <;> simp_all

/-- One operation more. -/
theorem mid_step (B : Base P E C Y L F X0) (hf : ∀ ao ∈ ops, ao.fine nt ops = true) (hdr : drawOk ops = true) (hw : ∀ i ao, ops[i]? = some ao → stepOp E C Y ao (tr i) = some (.normal, tr (i + 1))) (hb : (tr 0).b = X0.E.length)
    {S S' : Nat → Prop} (hS : Closed ops S) {i : Nat} {ao : AOp} (hi : ops[i]? = some ao) (hni : ¬ S i) (hed : ∀ e ∈ ao.o.after.toList, Region.binds .any e = true → S e.on) (hS' : ∀ j, S' j ↔ S j ∨ j = i)
    {a : Act} {X : Cx} (hm : Mid X0 L nt ops tr S a X) {K : Act → World → Prop} {Q : Exit → Act → World → Prop} (hK : ∀ a' X', Mid X0 L nt ops tr S' a' X' → K a' X'.w) :
    wpOpIn F 0 P (ops.map (·.o)).toArray Q i K a X.w := by
  have hlt := (List.getElem?_eq_some_iff.1 hi).1
  have hfi := hf ao (List.mem_of_getElem? hi)
  -- those before it that matter have come; those behind it that matter have not
  have hbef : ∀ j o, ops[j]? = some o → clash o ao = true → clash ao o = true → (j < i ↔ S j) := by
    intro j o hj hc1 hc2
    constructor
    · intro hji
      exact drawOk_spec hdr hS hji hj hi hc1 hed
    · intro hsj
      rcases Nat.lt_trichotomy j i with h | h | h
      · exact h
      · exact absurd (h ▸ hsj) hni
      · exact absurd (drawOk_spec hdr hS h hi hj hc2 (hS j o hj hsj)) hni
  -- what it looks at is as on the way
  have hsl : ∀ t, t ∈ ao.reads → VRel X L ((tr i).tm.get t) (a.tmps.getD t undef) := by
    intro t ht
    obtain ⟨k, hk, hkw, hv⟩ := hm.slots t
    rw [way_slot' hw hk (Nat.le_of_lt hlt) (fun j o hj hwr => by
      rw [hkw j o hj hwr, hbef j o hj (clash_reads ht hwr).2 (clash_reads ht hwr).1])]
    exact hv
  have hSR : SRel X L (onlyOf ao.reads (tr i).tm) a.tmps := by
    intro t
    rcases onlyOf_get (tr i).tm ao.reads t with ⟨h1, h2⟩ | h1
    · rw [h1]; exact hsl t h2
    · rw [h1]; exact .frz (.und _)
  have hent : ao.tch ≠ .no → X.H = (tr i).H := by
    intro hne
    obtain ⟨k, hk, hkw, hH⟩ := hm.ents
    rw [hH]
    refine (way_ents' hw hk (Nat.le_of_lt hlt) (fun j o hj hwr => ?_)).symm
    rw [hkw j o hj hwr, hbef j o hj (clash_tch (.inl ⟨hwr, hne⟩)) (clash_tch (.inr ⟨hne, hwr⟩))]
  have hbi : (tr i).b = X0.E.length := (way_b hw i (Nat.le_of_lt hlt)).trans hb
  have hlenX : X0.E.length ≤ X.H.length := by rw [← hm.ok.len]; exact hm.trans.lenE B.ok0
  -- behind it
  have fin : ∀ {X' : Cx} {v : AV} {cv : Value}, X'.Ok → Trans X X' → RefL X0.E.length X.H X'.H → VRel X' L v cv → (tr (i + 1)).tm = setDst ao.o.dst v (tr i).tm → (ao.tch ≠ .write → X'.H = X.H) → (ao.tch = .write → X'.H = (tr (i + 1)).H) →
      Mid X0 L nt ops tr S' (a.put ao.o.dst cv) X' := by
    intro X' v cv hok t href hv htm hnw hwr
    refine ⟨hok, hm.trans.trans t, (by rw [put_size]; exact hm.size), hm.ref.trans href, by rw [put_defers]; exact hm.defs.trans t hm.ok, fun s => ?_, ?_⟩
    · cases hws : ao.writes s with
      | true =>
        refine ⟨i + 1, hlt, fun j o hj hwj => ?_, ?_⟩
        · rw [hS', ← hbef j o hj (clash_dst hwj hws) (clash_dst hws hwj)]
          omega
        · obtain ⟨hd, hg⟩ := setDst_this hws v (tr i).tm
          rw [htm, hg, hd]
          have : s < a.tmps.size := Nat.lt_of_lt_of_le (dst_lt hfi hd) hm.size
          simp [Act.put, Array.getD_eq_getD_getElem?, this, hv]
      | false =>
        obtain ⟨k, hk, hkw, hvk⟩ := hm.slots s
        refine ⟨k, hk, fun j o hj hwj => ?_, ?_⟩
        · rw [hS', hkw j o hj hwj]
          refine ⟨.inl, fun h => h.resolve_right fun e => ?_⟩
          subst e
          rw [hi] at hj
          cases hj
          rw [hws] at hwj
          cases hwj
        · have : (a.put ao.o.dst cv).tmps.getD s undef = a.tmps.getD s undef := by
            unfold AOp.writes at hws
            cases hd : ao.o.dst with
            | none => rfl
            | some d =>
              rw [hd] at hws
              have hne : d ≠ s := fun e => by subst e; simp at hws
              simp only [Act.put, Array.getD_eq_getD_getElem?]
              rw [Array.getElem?_setIfInBounds_ne hne]
          rw [this]
          exact hvk.trans t hm.ok
    · by_cases hwt : ao.tch = .write
      · refine ⟨i + 1, hlt, fun j o hj hwj => ?_, hwr hwt⟩
        rw [hS', ← hbef j o hj (clash_tch (.inl ⟨hwj, by rw [hwt]; simp⟩)) (clash_tch (.inl ⟨hwt, by rw [hwj]; simp⟩))]
        omega
      · obtain ⟨k, hk, hkw, hH⟩ := hm.ents
        refine ⟨k, hk, fun j o hj hwj => ?_, (hnw hwt).trans hH⟩
        rw [hS', hkw j o hj hwj]
        refine ⟨.inl, fun h => h.resolve_right fun e => ?_⟩
        subst e
        rw [hi] at hj
        cases hj
        exact hwt hwj
  have hwd := wanted_of hfi hSR
  have hgs : ∀ g w, ao.g = some (g, w) → (onlyOf ao.reads (tr i).tm).get g = (tr i).tm.get g := fun g w hg => onlyOf_mem _ (by simp [AOp.reads, hg])
  rcases stepOp_cases (hw i ao hi) with ⟨hgd, v, ha, he⟩ | ⟨g, w, t, hg, ht, htw, he⟩
  · have hwt : Region.wanted ao.o (yielded (ops.map (·.o)).toArray a.tmps) = true := by
      rcases hgd with hg | ⟨g, w, hg, ht⟩
      · exact hwd.1 hg
      · rw [hwd.2.1 g w w hg (by rw [hgs g w hg]; exact ht)]; simp
    rw [← aop_only] at ha
    have htm : (tr (i + 1)).tm = setDst ao.o.dst v (tr i).tm := by rw [he]
    -- the same, at the entities as they are
    have main : ∀ H1, aop E C Y ao (tr i).b (onlyOf ao.reads (tr i).tm) X.H = some (.val v H1) → (ao.tch ≠ .write → H1 = X.H) → (ao.tch = .write → H1 = (tr (i + 1)).H) → wpOpIn F 0 P (ops.map (·.o)).toArray Q i K a X.w := by
      intro H1 h1 hnw hwr
      refine opIn_do B.tok B.cs B.wf hm.ok (B.gok.trans hm.trans B.ok0) (B.ys.later hm.trans) hi hSR hwt h1 ⟨fun v' H' e X' cv hok t hH hv => ?_, fun v' H' e => by cases e⟩
      cases e
      refine hK _ X' (fin hok t ?_ hv htm (fun h => hH.trans (hnw h)) (fun h => hH.trans (hwr h)))
      rw [hH]
      exact aop_ref B.cr B.ys.2.1 hlenX (hbi ▸ h1)
    cases hc : ao.tch with
    | no =>
      exact main X.H ((aopW_no (aval_fn _ _) hc ha).2 X.H) (fun _ => rfl) (fun h => nomatch hc.symm.trans h)
    | read =>
      have hX := hent (by rw [hc]; simp)
      rw [← hX] at ha
      exact main _ ha (fun _ => aopW_read (aval_fn _ _) hc ha) (fun h => nomatch hc.symm.trans h)
    | write =>
      have hX := hent (by rw [hc]; simp)
      rw [← hX] at ha
      exact main _ ha (fun h => absurd hc h) (fun _ => rfl)
  · have hwt : Region.wanted ao.o (yielded (ops.map (·.o)).toArray a.tmps) = false := by
      cases t with
      | bool t => rw [hwd.2.1 g w t hg (by rw [hgs g w hg]; exact ht)]; simpa [skips] using htw
      | tuple vs => exact hwd.2.2 g w vs hg (by rw [hgs g w hg]; exact ht)
      | _ => exact htw.elim
    refine opIn_not B.wf hi hwt (hK _ X (fin hm.ok (Trans.refl hm.ok) (.refl _ _) (.frz (.sc _)) (by rw [he]) (fun _ => rfl) (fun hc => ?_)))
    rw [hent (by rw [hc]; simp), he]

theorem mid_any (B : Base P E C Y L F X0) (hf : ∀ ao ∈ ops, ao.fine nt ops = true) (hdr : drawOk ops = true) (hw : ∀ i ao, ops[i]? = some ao → stepOp E C Y ao (tr i) = some (.normal, tr (i + 1))) (hb : (tr 0).b = X0.E.length)
    {Q : Exit → Act → World → Prop} (hQ : ∀ a' X', StRel X0 L nt (tr ops.length) a' X' → Q .normal a' X'.w) : ∀ (fuel : Nat) (listed : Array Bool) (a : Act) (X : Cx), listed.size = ops.length → cnt listed ops.length = fuel →
      Closed ops (fun j => listed.getD j false = true) → Mid X0 L nt ops tr (fun j => listed.getD j false = true) a X → wpAnyIn F 0 P .any (ops.map (·.o)).toArray Q fuel listed a X.w
  | 0, listed, a, X, hsz, hc, hcl, hm => by
    have hall := cnt_zero hc
    refine ⟨?_, hQ a X ⟨hm.ok, hm.trans, ?_, fun t => ?_, hm.size, (way_b hw _ (Nat.le_refl _)).trans hb, ?_, hm.defs⟩⟩
    · cases hr : Region.ready .any (ops.map (·.o)).toArray listed with
      | nil => rfl
      | cons j js =>
        have hj : j ∈ Region.ready .any (ops.map (·.o)).toArray listed := by rw [hr]; exact List.mem_cons_self ..
        obtain ⟨h1, o, ho, _⟩ := mem_ready.1 hj
        have hjl : j < ops.length := by
          have := (Array.getElem?_eq_some_iff.1 ho).1
          simpa using this
        have h2 := hall j hjl
        rw [Array.getD_eq_getD_getElem?, Array.getElem?_eq_getElem (by omega)] at h1 h2
        simp only [Option.getD_some] at h1 h2
        rw [h1] at h2
        cases h2
    · obtain ⟨k, hk, hkw, hH⟩ := hm.ents
      rw [hH]
      refine (way_ents' hw hk (Nat.le_refl _) fun j o hj hwj => ?_).symm
      have hjl := (List.getElem?_eq_some_iff.1 hj).1
      rw [hkw j o hj hwj]
      exact ⟨fun _ => hjl, fun _ => hall j hjl⟩
    · obtain ⟨k, hk, hkw, hv⟩ := hm.slots t
      rw [way_slot' hw hk (Nat.le_refl _) fun j o hj hwj => ?_]
      · exact hv
      · have hjl := (List.getElem?_eq_some_iff.1 hj).1
        rw [hkw j o hj hwj]
        exact ⟨fun _ => hjl, fun _ => hall j hjl⟩
    · rw [(way_b hw _ (Nat.le_refl _)).trans hb]
      obtain ⟨k, hk, hkw, hH⟩ := hm.ents
      have := way_ents' hw hk (Nat.le_refl _) (fun j o hj hwj => by
        have hjl := (List.getElem?_eq_some_iff.1 hj).1
        rw [hkw j o hj hwj]
        exact ⟨fun _ => hjl, fun _ => hall j hjl⟩)
      rw [this, ← hH]
      exact hm.ref
  | fuel + 1, listed, a, X, hsz, hc, hcl, hm => by
    refine ⟨fun hr => ?_, fun i hi => ?_⟩
    · obtain ⟨j, hj, hjl, hfirst⟩ := cnt_first (listed := listed) (n := ops.length) (by omega)
      have ho : ops[j]? = some ops[j] := List.getElem?_eq_getElem hj
      have : j ∈ Region.ready .any (ops.map (·.o)).toArray listed := by
        refine mem_ready.2 ⟨?_, ops[j].o, by simp [ho], fun e he hb => hfirst _ (drawOk_edge hdr ho e (by simpa using he) hb)⟩
        rw [Array.getD_eq_getD_getElem?, Array.getElem?_eq_getElem (by omega)] at hjl ⊢
        simpa using hjl
      rw [hr] at this
      cases this
    · obtain ⟨h1, o, ho, hed⟩ := mem_ready.1 hi
      simp only [List.getElem?_toArray, List.getElem?_map] at ho
      obtain ⟨ao, hao, rfl⟩ := Option.map_eq_some_iff.1 ho
      have hlt : i < listed.size := by rw [hsz]; exact (List.getElem?_eq_some_iff.1 hao).1
      have hni : listed.getD i false = false := by
        rw [Array.getD_eq_getD_getElem?, Array.getElem?_eq_getElem hlt] at h1 ⊢
        simpa using h1
      have hS' : ∀ j, (listed.setIfInBounds i true).getD j false = true ↔ listed.getD j false = true ∨ j = i := by
        intro j
        by_cases hij : i = j
        · subst hij
          simp [getD_set_same hlt]
        · rw [getD_set_ne false hij]
          exact ⟨.inl, fun h => h.resolve_right (fun e => hij e.symm)⟩
      refine mid_step (S' := fun j => (listed.setIfInBounds i true).getD j false = true) B hf hdr hw hb hcl hao (by simp [hni]) (fun e he hbn => hed e (by simpa using he) hbn) hS' hm fun a' X' hm' => ?_
      refine mid_any B hf hdr hw hb hQ fuel _ a' X' (by simpa using hsz) ?_ ?_ hm'
      · have := cnt_set hlt hni ops.length
        rw [if_pos (by omega)] at this
        omega
      · intro k o hk hSk e he hbn
        rw [hS'] at hSk ⊢
        rcases hSk with hSk | rfl
        · exact .inl (hcl k o hk hSk e he hbn)
        · rw [hao] at hk
          cases hk
          exact .inl (hed e (by simpa using he) hbn)

/-- A region whose order is drawn. -/
theorem draw_sound (hmix : P.follows .mixedOrders = true) (B : Base P E C Y L F X0) (hf : ∀ ao ∈ ops, ao.fine nt ops = true) (hdr : drawOk ops = true) {id : Nat} {st st' : St} {a : Act} {X : Cx} {Q : Exit → Act → World → Prop}
    (hS : StRel X0 L nt st a X) (h : runOps E C Y ops st = some (.normal, st')) (hon : Onward L (StRel X0 L nt) .normal st' Q) : (Code.region id (ops.map (·.o)).toArray true).wpIn F 0 P Q a X.w := by
  refine wpIn_region_any hmix ?_
  obtain ⟨tr, rfl, rfl, hw⟩ := runOps_way h
  have hs : Later X.w ({ X.w with drawn := X.w.drawn + 1 } : World) := ⟨Nat.le_refl _, rfl, rfl⟩
  have hk : ∀ b, b < X.w.heap.size → ({ X.w with drawn := X.w.drawn + 1 } : World).heap[b]? = X.w.heap[b]? := fun _ _ => rfl
  have t := Cx.at_trans hS.ok hs hk
  have hok := Cx.at_ok hS.ok hs hk
  have none : ∀ j, ¬ ((Array.replicate ops.length false).getD j false = true) := fun j => by
    simp [Array.getD_eq_getD_getElem?]
    by_cases hj : j < ops.length <;> simp [hj]
  rw [List.size_toArray, List.length_map]
  refine mid_any B hf hdr hw hS.b hon ops.length _ a (X.at { X.w with drawn := X.w.drawn + 1 }) (by simp) (cnt_replicate _ _ (Nat.le_refl _)) (fun k o _ h => absurd h (none k)) ?_
  refine ⟨hok, hS.trans.trans t, hS.size, by have := hS.ref; rw [hS.b] at this; rw [← hS.hH] at this; exact this, hS.defs.trans t hS.ok, fun s => ⟨0, Nat.zero_le _, fun j o _ _ => ⟨fun h => by omega, fun h => absurd h (none j)⟩, (hS.slots s).trans t hS.ok⟩,
    ⟨0, Nat.zero_le _, fun j o _ _ => ⟨fun h => by omega, fun h => absurd h (none j)⟩, hS.hH⟩⟩
end
end
end Go.Abs
