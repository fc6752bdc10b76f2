/- Operations that only compute. -/
import Derived.Test.YtlphdiccffnckaaTyp
import Derived.WalkSpells
namespace Go.Abs

section pure
variable {P : Program} {T : TT} (hT : TOk P T) {X : Cx} {L : List Nat}

theorem intBin_run {op : BinOp} {k : IntKind} {a b : Int} {r : Value} (h : intBin op k a b = some r) (t : TypeId) (w : World) :
    (binOp op t (.int k a) (.int k b)).run P w = .ok r w := by
  cases op <;> simp only [intBin] at h <;> first
    | (cases h; rfl)
    | (cases h; simp [binOp, Op.intArith]; done)
    | (cases h; simp [binOp, Op.intBits]; done)
    | (cases h; simp [binOp, Op.intCmp]; done)
    | (split at h
       · cases h
       · cases h; simp [binOp, Op.intDiv, *]; done)
    | (cases h; done)

theorem intShift_run {op : BinOp} {k k' : IntKind} {a b : Int} {r : Value} (h : intShift op k a b = some r) (t : TypeId) (w : World) :
    (binOp op t (.int k a) (.int k' b)).run P w = .ok r w := by
  simp only [intShift] at h
  split at h
  · cases h
  · rename_i hb
    cases op <;> simp only at h <;> first
      | (cases h; simp [binOp, Op.shift, hb]; done)
      | (cases h; done)

theorem aUn_run {op : UnOp} {a r : AV} (h : aUn op a = some r) {v : Value} (hv : VRel X L a v) :
    ∃ u, (Op.unary op v).run P X.w = .ok u X.w ∧ VRel X L r u := by
  unfold aUn at h
  split at h
  · split at h <;> cases h
    rw [hv.sc_inv]
    exact ⟨_, rfl, .frz (.sc _)⟩
  · split at h <;> cases h <;> rw [hv.sc_inv]
    · exact ⟨_, rfl, .frz (.sc _)⟩
    · exact ⟨_, rfl, .frz (.sc _)⟩
  · cases h

theorem scEq_sc {a b : AV} {e : Bool} (h : scEq a b = some e) : (∃ u, a = .sc u) ∧ ∃ u, b = .sc u := by
  unfold scEq at h
  split at h
  · exact ⟨⟨_, rfl⟩, ⟨_, rfl⟩⟩
  · exact ⟨⟨_, rfl⟩, ⟨_, rfl⟩⟩
  · cases h

theorem aggEq_sc : ∀ {cs ds : List AV} {e : Bool}, aggEq cs ds = some e → ∃ us vs : List Value, cs = us.map .sc ∧ ds = vs.map .sc
  | [], [], _, _ => ⟨[], [], rfl, rfl⟩
  | [], _ :: _, _, h => by simp [aggEq] at h
  | _ :: _, [], _, h => by simp [aggEq] at h
  | c :: cs, d :: ds, e, h => by
    simp only [aggEq] at h
    obtain ⟨e1, h1, h2⟩ := Option.bind_eq_some_iff.1 h
    obtain ⟨e2, h3, _⟩ := Option.map_eq_some_iff.1 h2
    obtain ⟨⟨u, rfl⟩, ⟨v, rfl⟩⟩ := scEq_sc h1
    obtain ⟨us, vs, rfl, rfl⟩ := aggEq_sc h3
    exact ⟨u :: us, v :: vs, rfl, rfl⟩

theorem agg_of_sc {us : List Value} {v : Value} (h : VRel X L (.agg (us.map .sc)) v) : v = .agg us.toArray := by
  obtain ⟨vs, rfl, hl, _, hp⟩ := h.agg_inv
  congr 1
  apply Array.ext
  · simpa using hl
  · intro i h1 h2
    have hi : i < us.length := by simpa using h2
    have := (hp i (.sc us[i]) vs[i] (by simp [hi]) (Array.getElem?_eq_getElem h1)).sc_inv
    simpa using this

theorem equalIn_bool {t : TypeId} (hd : P.underlying t = some .bool) (d : Nat) (a b : Bool) (w : World) : (Op.equalIn (d + 1) t (.bool a) (.bool b)).run P w = .ok (a == b) w := by
  unfold Op.equalIn
  simp only [Sem.run_bind, run_underlying hd, Result.andThen_ok, Sem.run_pure]
theorem equalIn_ifc {t : TypeId} {ms : Array (String × TypeId)} (hd : P.underlying t = some (.interface ms)) (d : Nat) (tt : TypeId) (q : Value) (w : World) :
    (Op.equalIn (d + 1) t (.iface tt q) .nilIface).run P w = .ok false w := by
  unfold Op.equalIn
  simp only [Sem.run_bind, run_underlying hd, Result.andThen_ok, Sem.run_pure]
theorem equal_bool {t : TypeId} (hd : P.underlying t = some .bool) (a b : Bool) (w : World) : (Op.equal t (.bool a) (.bool b)).run P w = .ok (a == b) w := equalIn_bool hd 9999 a b w
theorem equal_ifc {t : TypeId} {ms : Array (String × TypeId)} (hd : P.underlying t = some (.interface ms)) (tt : TypeId) (q : Value) (w : World) :
    (Op.equal t (.iface tt q) .nilIface).run P w = .ok false w := equalIn_ifc hd 9999 tt q w

theorem equalIn_slice {t e : TypeId} (hd : P.underlying t = some (.slice e)) (d : Nat) (a : Option Addr) (n c : Nat) (w : World) :
    (Op.equalIn (d + 1) t (.slice a n c) (.slice none 0 0)).run P w = .ok a.isNone w := by
  unfold Op.equalIn
  cases a <;> simp only [Sem.run_bind, run_underlying hd, Result.andThen_ok, Sem.run_pure] <;> rfl
theorem equal_slice {t e : TypeId} (hd : P.underlying t = some (.slice e)) (a : Option Addr) (n c : Nat) (w : World) :
    (Op.equal t (.slice a n c) (.slice none 0 0)).run P w = .ok a.isNone w := equalIn_slice hd 9999 a n c w
theorem quiet_slice (op : BinOp) (t : TypeId) (x y : Operand) (a b : Option Addr) (n c m d : Nat) (w : World) : (eqGuard op t x y (.slice a n c) (.slice b m d)).run P w = .ok () w := by
  unfold eqGuard; cases op <;> rfl
theorem sl_some {f : Bool} {z : Nat} {x : List AV} {xs : List (List AV)} {u : Value} (h : VRel X L (.sl f z (x :: xs)) u) : ∃ a n c, u = .slice (some a) n c := by
  cases h with
  | frz h => cases h with
    | sl => exact ⟨_, _, _, rfl⟩

theorem quiet_int (op : BinOp) (t : TypeId) (x y : Operand) (k k' : IntKind) (a b : Int) (w : World) : (eqGuard op t x y (.int k a) (.int k' b)).run P w = .ok () w := by
  unfold eqGuard; cases op <;> rfl
theorem quiet_bool (op : BinOp) (t : TypeId) (x y : Operand) (a b : Bool) (w : World) : (eqGuard op t x y (.bool a) (.bool b)).run P w = .ok () w := by
  unfold eqGuard; cases op <;> rfl
theorem quiet_ifc (op : BinOp) (t : TypeId) (x y : Operand) (tt : TypeId) (q : Value) (w : World) : (eqGuard op t x y (.iface tt q) .nilIface).run P w = .ok () w := by
  unfold eqGuard; cases op <;> rfl

include hT in
theorem aBin_run {op : BinOp} {t : Nat} {a b r : AV} (h : aBin T op t a b = some r) {u v : Value} (hu : VRel X L a u) (hv : VRel X L b v) (x y : Operand) :
    ∃ q, (do eqGuard op t x y u v; binOp op t u v : Sem Value).run P X.w = .ok q X.w ∧ VRel X L r q := by
  unfold aBin at h
  split at h
  · rename_i k a k' b
    rw [hu.sc_inv, hv.sc_inv]
    simp only [Sem.run_bind, quiet_int, Result.andThen_ok]
    split at h
    · obtain ⟨q, h1, rfl⟩ := Option.map_eq_some_iff.1 h
      exact ⟨q, intShift_run h1 t X.w, .frz (.sc _)⟩
    · obtain ⟨q, h1, rfl⟩ := Option.map_eq_some_iff.1 h
      exact ⟨q, intShift_run h1 t X.w, .frz (.sc _)⟩
    · split at h
      · rename_i hk
        subst hk
        obtain ⟨q, h1, rfl⟩ := Option.map_eq_some_iff.1 h
        exact ⟨q, intBin_run h1 t X.w, .frz (.sc _)⟩
      · cases h
  · rename_i a b
    rw [hu.sc_inv, hv.sc_inv]
    simp only [Sem.run_bind, quiet_bool, Result.andThen_ok]
    split at h
    · rename_i ht
      have hd := hT.bool t ht
      split at h <;> cases h
      · exact ⟨_, by simp only [binOp, Sem.run_bind, equal_bool hd, Result.andThen_ok, Sem.run_pure], .frz (.sc _)⟩
      · exact ⟨_, by simp only [binOp, Sem.run_bind, equal_bool hd, Result.andThen_ok, Sem.run_pure], .frz (.sc _)⟩
    · cases h
  · rename_i cs ds
    split at h
    · rename_i ht
      have key : ∀ e, aggEq cs ds = some e → ∃ us vs, u = .agg us ∧ v = .agg vs ∧ P.eqGuardType P.depth t = false ∧ (Op.equal t (.agg us) (.agg vs)).run P X.w = .ok e X.w := by
        intro e he
        obtain ⟨us, vs, rfl, rfl⟩ := aggEq_sc he
        obtain ⟨h1, h2⟩ := hT.eqc t us vs e X.w ht he
        exact ⟨_, _, agg_of_sc hu, agg_of_sc hv, h1, h2⟩
      split at h
      · obtain ⟨e, he, rfl⟩ := Option.map_eq_some_iff.1 h
        obtain ⟨us, vs, rfl, rfl, h1, h2⟩ := key e he
        refine ⟨.bool e, ?_, .frz (.sc _)⟩
        simp [eqGuard, h1, binOp, h2]
      · obtain ⟨e, he, rfl⟩ := Option.map_eq_some_iff.1 h
        obtain ⟨us, vs, rfl, rfl, h1, h2⟩ := key e he
        refine ⟨.bool (!e), ?_, .frz (.sc _)⟩
        simp [eqGuard, h1, binOp, h2]
      · cases h
    · cases h
  · split at h
    · rename_i ht
      obtain ⟨⟨z, eb⟩, ht⟩ := Option.isSome_iff_exists.1 ht
      obtain ⟨e, _, _, hd, _⟩ := hT.elem _ _ _ ht
      obtain ⟨a, n, c, rfl⟩ := sl_some hu
      rw [hv.sc_inv]
      simp only [Sem.run_bind, quiet_slice, Result.andThen_ok]
      split at h <;> cases h
      · exact ⟨_, by simp only [binOp, Sem.run_bind, equal_slice hd, Result.andThen_ok, Sem.run_pure, Option.isNone_some], .frz (.sc _)⟩
      · exact ⟨_, by simp only [binOp, Sem.run_bind, equal_slice hd, Result.andThen_ok, Sem.run_pure, Option.isNone_some, Bool.not_false], .frz (.sc _)⟩
    · cases h
  · split at h
    · rename_i ht
      obtain ⟨⟨z, eb⟩, ht⟩ := Option.isSome_iff_exists.1 ht
      obtain ⟨e, _, _, hd, _⟩ := hT.elem _ _ _ ht
      rw [hu.sc_inv, hv.sc_inv]
      simp only [Sem.run_bind, quiet_slice, Result.andThen_ok]
      split at h <;> cases h
      · exact ⟨_, by simp only [binOp, Sem.run_bind, equal_slice hd, Result.andThen_ok, Sem.run_pure, Option.isNone_none], .frz (.sc _)⟩
      · exact ⟨_, by simp only [binOp, Sem.run_bind, equal_slice hd, Result.andThen_ok, Sem.run_pure, Option.isNone_none, Bool.not_true], .frz (.sc _)⟩
    · cases h
  · rename_i n z
    split at h
    · rename_i ht
      obtain ⟨⟨z, eb⟩, ht⟩ := Option.isSome_iff_exists.1 ht
      obtain ⟨e, _, _, hd, _⟩ := hT.elem _ _ _ ht
      obtain ⟨a, c, rfl, rfl⟩ := hu.nsl_inv
      rw [hv.sc_inv]
      simp only [Sem.run_bind, quiet_slice, Result.andThen_ok]
      split at h <;> cases h
      · exact ⟨_, by simp only [binOp, Sem.run_bind, equal_slice hd, Result.andThen_ok, Sem.run_pure], .frz (.sc _)⟩
      · exact ⟨_, by simp only [binOp, Sem.run_bind, equal_slice hd, Result.andThen_ok, Sem.run_pure], .frz (.sc _)⟩
    · cases h
  · rename_i tt aa
    split at h
    · rename_i ht
      obtain ⟨ms, hd⟩ := hT.ifc t ht
      obtain ⟨q, rfl, _⟩ := hu.ifc_inv
      rw [hv.sc_inv]
      simp only [Sem.run_bind, quiet_ifc, Result.andThen_ok]
      split at h <;> cases h
      · exact ⟨_, by simp only [binOp, Sem.run_bind, equal_ifc hd, Result.andThen_ok, Sem.run_pure, Bool.not_false], .frz (.sc _)⟩
      · exact ⟨_, by simp only [binOp, Sem.run_bind, equal_ifc hd, Result.andThen_ok, Sem.run_pure, Bool.not_false], .frz (.sc _)⟩
    · cases h
  · cases h

include hT in
theorem aConv_run {src dst : Nat} {a r : AV} (h : aConv T src dst a = some r) {v : Value} (hv : VRel X L a v) :
    ∃ u, (convert src dst v).run P X.w = .ok u X.w ∧ VRel X L r u := by
  unfold aConv at h
  split at h
  · split at h
    · rename_i hs
      obtain ⟨k, h1, rfl⟩ := Option.map_eq_some_iff.1 h
      obtain ⟨⟨n, g⟩, h2⟩ := Option.isSome_iff_exists.1 hs
      obtain ⟨i, d, _, _, hd, _⟩ := hT.size _ _ _ h2
      rw [hv.sc_inv]
      refine ⟨_, ?_, .frz (.sc _)⟩
      unfold convert
      simp only [Sem.run_bind, run_underlying hd, run_underlying (hT.int _ _ h1), Result.andThen_ok]
      cases d <;> rfl
    · cases h
  · cases h

theorem valOf_part {t n : Nat} {g : Bool} {i : TypeInfo} {d : TypeDesc} (hi : P.info? t = some i) (hn : i.size = n) (hd : P.underlying t = some d) (hg : aggD d = g)
    {cs : List AV} {vs : Array Value} (hl : vs.size = cs.length) (h1 : ∀ (i : Nat) v, vs[i]? = some v → v.oneCell' = true) (hp : ∀ (i : Nat) c v, cs[i]? = some c → vs[i]? = some v → VRel X L c v)
    {off : Nat} {r : AV} (h : valOf n g (cs.drop off) = some r) : ∃ u, (part t vs off).run P X.w = .ok u X.w ∧ VRel X L r u := by
  have hagg : (isAgg t).run P X.w = .ok g X.w := by
    simp only [Go.isAgg, Sem.run_bind, run_underlying hd, Result.andThen_ok]
    cases d <;> simp [aggD] at hg <;> subst hg <;> rfl
  unfold part
  simp only [Sem.run_bind, hagg, Result.andThen_ok]
  cases g with
  | false =>
    simp only [valOf, Bool.false_eq_true, if_false] at h
    rw [List.head?_drop] at h
    have hlt := (List.getElem?_eq_some_iff.1 h).1
    have hv : vs[off]? = some (vs[off]'(by omega)) := Array.getElem?_eq_getElem _
    exact ⟨_, by simp [hv], hp off r _ h hv⟩
  | true =>
    simp only [valOf, if_true] at h
    split at h
    · rename_i hn'
      cases h
      simp only [List.length_drop] at hn'
      refine ⟨.agg (vs.extract off (off + n)), by simp [Go.sizeOf, typeInfo, hi, hn], .agg (by simp; omega) (fun i v hv => ?_) (fun i c v hc hv => ?_)⟩
      · rw [Array.getElem?_extract] at hv
        split at hv
        · exact h1 _ _ hv
        · cases hv
      · rw [Array.getElem?_extract] at hv
        split at hv
        · rw [List.getElem?_take] at hc
          split at hc
          · rw [List.getElem?_drop] at hc
            exact hp _ _ _ hc hv
          · cases hc
        · cases hv
    · cases h

include hT in
theorem aFieldVal_run {t f : Nat} {a r : AV} (h : aFieldVal T t f a = some r) {v : Value} (hv : VRel X L a v) :
    ∃ u, (Instr.field t v f).run P X.w = .ok u X.w ∧ VRel X L r u := by
  unfold aFieldVal at h
  split at h
  · split at h
    · rename_i off n g hf
      simp only [TT.fld] at hf
      obtain ⟨l, h1, h2⟩ := Option.bind_eq_some_iff.1 hf
      obtain ⟨fs, hu, _, hfs⟩ := hT.fld t l h1
      obtain ⟨fl, i, d, h3, h4, h5, h6, _, h7, h8⟩ := hfs f off n g h2
      obtain ⟨vs, rfl, hl, h9, hp⟩ := hv.agg_inv
      subst h4
      obtain ⟨u, h10, h11⟩ := valOf_part h5 h6 h7 h8 hl h9 hp h
      exact ⟨u, by simp [Instr.field, run_underlying hu, h3, asAgg, h10], h11⟩
    · cases h
  · cases h

include hT in
theorem aIndex_run {t : Nat} {a b r : AV} (h : aIndex T t a b = some r) {u v : Value} (hu : VRel X L a u) (hv : VRel X L b v) :
    ∃ q, (Instr.index t u v).run P X.w = .ok q X.w ∧ VRel X L r q := by
  unfold aIndex at h
  split at h
  · split at h
    · rename_i n z g ha
      split at h
      · rename_i hi
        obtain ⟨e, i, d, h1, h2, h3, h4, h5⟩ := hT.arr _ _ _ _ ha
        obtain ⟨vs, rfl, hl, h9, hp⟩ := hu.agg_inv
        rw [hv.sc_inv]
        obtain ⟨q, h10, h11⟩ := valOf_part h2 h3 h4 h5 hl h9 hp h
        refine ⟨q, ?_, h11⟩
        simp [Instr.index, asIntOf, run_underlying h1, hi, Go.sizeOf, typeInfo, h2, h3, h10]
      · cases h
    · cases h
  · cases h

theorem alive_addr (hX : X.Ok) {a : AV} (h : alive X.H a = true) {v : Value} (hv : VRel X L a v) :
    ∃ b o, v = .pointer (some ⟨b, o, none⟩) ∧ ∀ d, VRel X L (a.shift d) (.pointer (some ⟨b, o + d, none⟩)) := by
  cases a <;> simp only [alive] at h <;> try (cases h; done)
  · rename_i cs
    obtain ⟨ad, rfl, hs, hb, hM, hc⟩ := hv.fp_inv
    obtain ⟨b, o, s⟩ := ad
    simp only at hs
    subst hs
    refine ⟨b, o, rfl, fun d => ?_⟩
    have hex : ∀ j, ∃ u, ∀ c, cs[j]? = some c → X.w.cell? ⟨b, o + j, none⟩ = some u ∧ u.oneCell' = true ∧ FRel X.w X.M c u := by
      intro j
      cases hj : cs[j]? with
      | none => exact ⟨undef, fun c hc => by cases hc⟩
      | some c =>
        obtain ⟨u, hu⟩ := hc j c hj
        exact ⟨u, fun c' hc' => by cases hc'; exact hu⟩
    refine .frz (.fp (fun j => (hex (d + j)).choose) rfl hb hM (fun j c hj => ?_) (fun j c hj => ?_) (fun j c hj => ?_))
    · rw [List.getElem?_drop] at hj
      have := ((hex (d + j)).choose_spec c hj).1
      simpa [Nat.add_assoc] using this
    · rw [List.getElem?_drop] at hj
      exact ((hex (d + j)).choose_spec c hj).2.1
    · rw [List.getElem?_drop] at hj
      exact ((hex (d + j)).choose_spec c hj).2.2
  · rename_i k off
    split at h
    · rename_i cs hk
      obtain ⟨e', hE, hr⟩ := hX.hec hk
      cases e' <;> simp only [EntRel] at hr
      rename_i b
      obtain ⟨h1, h2, h3⟩ := hv.bp_inv
      exact ⟨b, off, h3 b hE, fun d => .bp rfl h1 fun b' hb' => by rw [hE] at hb'; cases hb'; rfl⟩
    · cases h
  · rename_i k i off vr
    split at h
    · rename_i vr' z xs hk
      have hvr := Nat.eq_of_beq_eq_true h
      subst hvr
      obtain ⟨e', hE, hr⟩ := hX.hec hk
      cases e' <;> simp only [EntRel] at hr
      rename_i hdr
      obtain ⟨h1, h2, h3, h4⟩ := hv.op_inv
      obtain ⟨a, n, cap, h5, h6⟩ := h4 z xs hdr hk hE
      refine ⟨a.block, i * z + off, h6, fun d => .op rfl h1 h2 fun z' xs' hdr' hH' hE' => ?_⟩
      rw [hk] at hH'
      rw [hE] at hE'
      cases hH'
      cases hE'
      exact ⟨a, n, cap, h5, by simp [Nat.add_assoc]⟩
    · cases h

theorem shift_zero (a : AV) : a.shift 0 = a := by cases a <;> simp [AV.shift]

include hT in
theorem aField_run (hX : X.Ok) {t f : Nat} {a r : AV} (h : aField T X.H t f a = some r) {v : Value} (hv : VRel X L a v) :
    ∃ u, (Instr.fieldAt t v f).run P X.w = .ok u X.w ∧ VRel X L r u := by
  unfold aField at h
  split at h
  · rename_i ha
    obtain ⟨⟨off, n, g⟩, h1, rfl⟩ := Option.map_eq_some_iff.1 h
    simp only [TT.fld] at h1
    obtain ⟨l, h2, h3⟩ := Option.bind_eq_some_iff.1 h1
    obtain ⟨fs, hu, _, hfs⟩ := hT.fld t l h2
    obtain ⟨fl, i, d, h4, h5, h6, h7, h8, _, _⟩ := hfs f off n g h3
    obtain ⟨b, o, rfl, hsh⟩ := alive_addr hX ha hv
    refine ⟨_, ?_, hsh off⟩
    subst h5
    subst h7
    have hne : i.size ≠ 0 := by omega
    simp [Instr.fieldAt, run_underlying hu, h4, Instr.sureAddr, fieldPlace, Go.sizeOf, typeInfo, h6, hne, add_at]
  · cases h

theorem bounds_in {i : Int} {n : Nat} (h0 : ¬ i < 0) (h : i.toNat < n) : 0 ≤ i ∧ i < (n : Int) := by omega

include hT in
theorem aIndexAddr_run (hX : X.Ok) {t : Nat} {a b r : AV} (h : aIndexAddr T X.H t a b = some r) {u v : Value} (hu : VRel X L a u) (hv : VRel X L b v) :
    ∃ q, (Instr.indexAt t u v).run P X.w = .ok q X.w ∧ VRel X L r q := by
  unfold aIndexAddr at h
  split at h
  · rename_i kk i
    rw [hv.sc_inv]
    split at h
    · cases h
    · rename_i hi
      have sl : ∀ (z' eb : Nat), T.elem t = some (z', eb) → ∀ (ad : Addr) (len cap : Nat), i.toNat < len →
          (Instr.indexAt t (.slice (some ad) len cap) (.int kk i)).run P X.w = .ok (.pointer (some (ad.add (i.toNat * z')))) X.w := by
        intro z' eb he ad len cap hlt
        obtain ⟨e, ii, vv, h1, h2, h3, _⟩ := hT.elem _ _ _ he
        subst h3
        simp [Instr.indexAt, asIntOf, run_underlying h1, bounds_in hi hlt, Go.sizeOf, typeInfo, h2]
      split at h
      · rename_i f z xs
        split at h
        · rename_i z' eb he
          split at h
          · rename_i hz
            subst hz
            obtain ⟨x, hx, rfl⟩ := Option.map_eq_some_iff.1 h
            have hlt := (List.getElem?_eq_some_iff.1 hx).1
            obtain ⟨a, cap, rfl, hc, hf, hne⟩ := hu.sl_inv
            obtain ⟨hz, ad, rfl, hs, hb, hM, hcell⟩ := hne (by rintro rfl; simp at hlt)
            refine ⟨_, sl z eb he ad _ _ hlt, ?_⟩
            rw [add_none hs]
            have hex : ∀ j, ∃ u, ∀ c, x[j]? = some c → X.w.cell? ⟨ad.block, ad.off + (i.toNat * z + j), none⟩ = some u ∧ u.oneCell' = true ∧ FRel X.w X.M c u := by
              intro j
              cases hj : x[j]? with
              | none => exact ⟨undef, fun c hc => by cases hc⟩
              | some c =>
                obtain ⟨u, hu⟩ := hcell i.toNat j x c hx hj
                exact ⟨u, fun c' hc' => by cases hc'; exact hu⟩
            refine .frz (.fp (fun j => (hex j).choose) rfl hb hM (fun j c hj => ?_) (fun j c hj => ?_) (fun j c hj => ?_))
            · simpa [Nat.add_assoc] using ((hex j).choose_spec c hj).1
            · exact ((hex j).choose_spec c hj).2.1
            · exact ((hex j).choose_spec c hj).2.2
          · cases h
        · cases h
      · rename_i k off len vr
        split at h
        · rename_i z' eb vr' z xs he hk
          split at h
          · rename_i hc
            obtain ⟨rfl, rfl, hlt, hlt2⟩ := hc
            cases h
            obtain ⟨e', hE, hr⟩ := hX.hec hk
            cases e' <;> simp only [EntRel] at hr
            rename_i hdr
            obtain ⟨h1, h2, h3, h4⟩ := hu.os_inv
            have h4 := h4 z xs hdr hk hE
            obtain ⟨hz, hl, hr⟩ := hr
            rcases hr with ⟨_, _, rfl⟩ | ⟨b, cap, arr, ty, rfl, _⟩
            · simp at hlt2
            · simp only [SubSl] at h4
              subst h4
              refine ⟨_, sl z eb he _ _ _ hlt, ?_⟩
              rw [add_at]
              refine .op rfl h1 h2 fun z' xs' hdr' hH' hE' => ?_
              rw [hk] at hH'
              rw [hE] at hE'
              cases hH'
              cases hE'
              exact ⟨_, _, _, rfl, by simp [Nat.add_mul]⟩
          · cases h
        · cases h
      · rename_i k off len z
        split at h
        · rename_i z' eb cs he hk
          split at h
          · rename_i hc
            obtain ⟨rfl, hlt⟩ := hc
            cases h
            obtain ⟨e', hE, hr⟩ := hX.hec hk
            cases e' <;> simp only [EntRel] at hr
            rename_i b
            obtain ⟨h1, _, h3⟩ := hu.bxs_inv
            obtain ⟨cap, rfl, _⟩ := h3 b hE
            refine ⟨_, sl z eb he _ _ _ hlt, ?_⟩
            rw [add_at]
            exact .bp rfl h1 fun b' hb' => by rw [hE] at hb'; cases hb'; rfl
          · cases h
        · cases h
      · split at h
        · rename_i n z g ha
          split at h
          · rename_i hc
            obtain ⟨hlt, hal⟩ := hc
            cases h
            obtain ⟨e, ii, d, h1, h2, h3, _⟩ := hT.arr _ _ _ _ ha
            obtain ⟨b, o, rfl, hsh⟩ := alive_addr hX hal hu
            refine ⟨_, ?_, hsh _⟩
            subst h3
            simp [Instr.indexAt, asIntOf, run_underlying h1, Instr.sureAddr, bounds_in hi hlt, Go.sizeOf, typeInfo, h2, add_at]
          · cases h
        · cases h
  · cases h
end pure
end Go.Abs
