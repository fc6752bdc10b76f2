/- From the evaluator to a row. -/
import Derived.Test.YtlphdiccffnckaaArg
import Derived.ProofKit
import Derived.Carry
namespace Go.Abs
open Go.ChangeShapes Go.WideShapes Go.ChangeAt Go.RowKit

section
variable {H : Type} {enc : TypeId × Value → H} {P : Program}

theorem trodAll_stays (hl : laidOutB P = true) {W W' : World} {sp : Nat → Bool} (hsame : ∀ b, b < W.heap.size → W'.heap[b]? = W.heap[b]?) : ∀ {ts : List TypeId} {vs : List Value} {ds : List (DataW H)} {ps : List MemPlace},
    (∀ t ∈ ts, P.readableRec t = true ∧ t < P.types.size) → DataW.TrodAll enc P W 0 (fun _ => true) true ts vs ds ps → (∀ p ∈ ps, p.block < W.heap.size) → (∀ p ∈ ps, sp p.block = true) → DataW.TrodAll enc P W' 0 sp true ts vs ds ps
  | [], [], [], _, _, h, _, _ => h
  | t :: ts, v :: vs, d :: ds, ps, ht, h, hlt, hsp => by
    obtain ⟨p, q, h1, h2, rfl⟩ := h
    obtain ⟨r1, r2⟩ := ht t (List.mem_cons_self ..)
    refine ⟨p, q, ?_, trodAll_stays hl hsame (fun t h => ht t (List.mem_cons_of_mem _ h)) h2 (fun x hx => hlt x (List.mem_append_right _ hx)) (fun x hx => hsp x (List.mem_append_right _ hx)), rfl⟩
    refine WideElems.Trod_stays hl r1 r2 h1 (fun x hx => ?_) (fun x hx => hsp x (List.mem_append_left _ hx))
    have hb := hsame x.block (hlt x (List.mem_append_left _ hx))
    cases x with
    | cell b off => simp only [World.sameAt, World.cell?]; rw [show W'.heap[b]? = W.heap[b]? from hb]
    | map b => exact hb
  | [], _ :: _, _, _, _, h, _, _ => h.elim
  | [], [], _ :: _, _, _, h, _, _ => h.elim
  | _ :: _, [], _, _, _, h, _, _ => h.elim
  | _ :: _, _ :: _, [], _, _, h, _, _ => h.elim

theorem keptBut_same {W W' : World} (hl : Later W W') (hsame : ∀ b, b < W.heap.size → W'.heap[b]? = W.heap[b]?) (may : MemPlace → Prop) : W.keptBut W' may := by
  refine ⟨hl.os, hl.output, fun i hi => ?_⟩
  rw [hsame i hi]
  split
  · rename_i h1 h2
    rw [h1] at h2
    cases h2
    exact ⟨rfl, rfl, rfl, fun _ _ => rfl⟩
  · rename_i h1 h2
    rw [h1] at h2
    cases h2
    exact .inr ⟨rfl, rfl⟩
  · rfl

/-- The law says true, and nothing that was there has turned. -/
theorem post_true {f : Func} {s : ChangeSpec} {tb : TypeId} (hres : f.resultTypes = #[tb]) (htb : P.underlying tb = some .bool) (hvars : s.vars = []) (hl : laidOutB P = true) (hts : ∀ t ∈ f.params.toList, P.readableRec t = true ∧ t < P.types.size)
    {fresh handsOn again : Bool} {W W' : World} {args : Array Value} {ds gs : List (DataW H)} {before : List MemPlace} (hW : DataW.Whole enc P f.params.toList s.vars false W args.toList ds gs before)
    (hout : (s.fn H (ds ++ gs)).results = [.lit (.bool true)] ∧ (s.fn H (ds ++ gs)).args = ds ∧ (s.fn H (ds ++ gs)).vars = []) (hlater : Later W W') (hsame : ∀ b, b < W.heap.size → W'.heap[b]? = W.heap[b]?) :
    s.post enc P f false fresh handsOn again W args (.bool true) W' := by
  have hlt := hW.lt
  obtain ⟨p, q, hA, hV, hpq, hfz, hnd⟩ := hW
  have hgs : gs = [] ∧ q = [] := by
    rw [hvars] at hV
    cases gs with
    | nil => exact ⟨rfl, hV⟩
    | cons g gs => exact hV.elim
  obtain ⟨rfl, rfl⟩ := hgs
  rw [List.append_nil] at hpq
  subst hpq
  obtain ⟨o1, o2, o3⟩ := hout
  have hargs : ∀ sp : Nat → Bool, (∀ x ∈ before, sp x.block = true) → DataW.TrodAll enc P W' 0 sp true f.params.toList args.toList ds before := fun sp hsp => trodAll_stays hl hsame hts hA hlt hsp
  have hr : ∀ (b : Nat) (sp : Nat → Bool) (hd : Bool), DataW.TrodAll enc P W' b sp hd f.resultTypes.toList ((Value.bool true).resultList f.resultTypes.size) [.lit (.bool true)] [] := by
    intro b sp hd
    rw [hres]
    exact trodAll_mk1 (shut_bool htb true)
  have hv : ∀ sp : Nat → Bool, DataW.TrodVars enc P W' sp s.vars ([] : List (DataW H)) [] := fun sp => by rw [hvars]; rfl
  refine ⟨ds, [], before, [], before, [], ⟨before, [], hA, hV, by simp, hfz, hnd⟩, by rw [o1]; exact hr _ _ _, by rw [o2]; exact hargs _ (fun x hx => by simpa using hlt x hx), by rw [o3]; exact hv _, keptBut_same hlater hsame _, fun _ => ⟨ok_one hres rfl (okWide_bool_mk htb true), ?_⟩⟩
  refine ⟨[.lit (.bool true)] ++ ds, [], [] ++ before, ⟨[] ++ before, [], trodAll_append (hargs _ (fun _ _ => rfl)) (hr _ _ _), hv _, by simp, fun b off hp => ?_, fun h => by cases h⟩, fun x hx _ => by simpa using hx⟩
  have hp' : MemPlace.cell b off ∈ before := by simpa using hp
  have hb := hsame b (hlt _ hp')
  have := hfz b off hp'
  simp only [World.frozen?] at this ⊢
  rw [hb]
  exact this

/-- A law that the evaluator finds true. -/
theorem law_calls {E : Env} {C : CF} (hC : CSound P E.G C) (hG : ∀ W : World, GOk E.G { w := W, M := fun _ => False, E := [], H := [] }) {g : Nat} {f : Func} {s : ChangeSpec} {tb : TypeId} (hres : f.resultTypes = #[tb]) (htb : P.underlying tb = some .bool) (hvars : s.vars = []) (hl : laidOutB P = true)
    (hts : ∀ t ∈ f.params.toList, P.readableRec t = true ∧ t < P.types.size) {fresh handsOn again : Bool} {W : World} {args : Array Value} {ds gs : List (DataW H)} {before : List MemPlace} (hW : DataW.Whole enc P f.params.toList s.vars false W args.toList ds gs before)
    (hout : (s.fn H (ds ++ gs)).results = [.lit (.bool true)] ∧ (s.fn H (ds ++ gs)).args = ds ∧ (s.fn H (ds ++ gs)).vars = []) {avs : List AV} (has : ARel { w := W, M := fun _ => False, E := [], H := [] } [] avs args)
    (hlaw : C g avs [] [] = some (.ret (.sc (.bool true)), [])) : Calls P g args W fun e W' => ∃ v, e = .returned v ∧ s.post enc P f false fresh handsOn again W args v W' := by
  have hok : Cx.Ok { w := W, M := fun _ => False, E := [], H := [] } := ⟨rfl, fun b h => h.elim, fun k h e hH => by simp at hH, fun i j e e' b hi => by simp at hi⟩
  refine callsIn_wide.1 (((hC g avs [] [] _ _ hlaw).2 _ [] args rfl hok (hG W) has .nil).mono fun e W' h => ?_)
  obtain ⟨X', rfl, _, _, t, cv, rfl, hv⟩ := h
  have hcv := hv.sc_inv
  subst hcv
  exact ⟨_, rfl, post_true hres htb hvars hl hts hW hout t.later fun b hb => t.same b hb (by rintro ⟨k, e, hk, _⟩; simp at hk)⟩

/-- Where a call is handed its arguments: nothing of this memory will be written. -/
def Cx.start (W : World) : Cx := { w := W, M := fun _ => False, E := [], H := [] }

/-- One argument is read. -/
def Arg1 (e0 : TypeId × Value → H) (P : Program) (W : World) (t : Nat) {A : Type} (en : A → AV) (good : A → Prop) : Prop :=
  ∀ v d p base, Value.okWide P W .any base t v → DataW.Trod e0 P W 0 (fun _ => true) true t v d p → ∃ a, good a ∧ FRel W (fun _ => False) (en a) v

theorem Arg1.agg {t : Nat} {W : World} {A : Type} {en : A → List AV} {good : A → Prop} (hu : (∃ fs, P.underlying t = some (.struct fs)) ∨ ∃ n e, P.underlying t = some (.array n e)) (h : Rd enc P W t en good) :
    Arg1 enc P W t (fun a => .agg (en a)) good := by
  intro v d p base hok ⟨fuel, hd⟩
  obtain ⟨cs, rfl⟩ : ∃ cs, v = .agg cs := by
    unfold Value.okWide at hok
    rcases hu with ⟨fs, hu⟩ | ⟨n, e, hu⟩ <;> rw [hu] at hok <;> obtain ⟨cs, rfl, _⟩ := hok <;> exact ⟨cs, rfl⟩
  obtain ⟨a, h1, h2, h3⟩ := h fuel _ d p hd
  refine ⟨a, h1, .agg (by simpa [Value.cells] using h2.symm) (fun i u hu' => ?_) (fun i c u hc hu' => ?_)⟩
  · have hlt : i < (en a).length := by rw [h2]; simpa [Value.cells] using (Array.getElem?_eq_some_iff.1 hu').1
    exact (h3 i _ u (List.getElem?_eq_getElem hlt) (by simpa [Value.cells] using hu')).2
  · exact (h3 i c u hc (by simpa [Value.cells] using hu')).1

theorem Arg1.cell {t : Nat} {W : World} {A : Type} {en : A → AV} {good : A → Prop} (hu : (∃ k, P.underlying t = some (.int k)) ∨ P.underlying t = some .bool ∨ ∃ e, P.underlying t = some (.slice e)) (h : Rd enc P W t (fun a => [en a]) good) :
    Arg1 enc P W t en good := by
  intro v d p base hok ⟨fuel, hd⟩
  obtain ⟨a, h1, h2, h3⟩ := h fuel _ d p hd
  have hone : v.cells = #[v] := by
    unfold Value.okWide at hok
    rcases hu with ⟨k, hu⟩ | hu | ⟨e, hu⟩ <;> rw [hu] at hok <;> simp only [Cell.okWide, hu] at hok <;> cases v <;> first | rfl | simp [Cell.ok, hu] at hok
  refine ⟨a, h1, (h3 0 (en a) v rfl ?_).1⟩
  rw [hone]
  rfl
end
end Go.Abs
