/- Texts put together: Iqc, Jou, Iqd. -/
import Derived.Test.YtlphdiccffnckaaPaq
import Derived.Test.YtlphdiccffnckaaPai

/- Layer 13: lineages that go on. -/
namespace Go.Proofs.Ytlphdiccffnckaa
open Go Go.Abs
theorem f83_eq : fs 83 = some (mkFn {} Go.Proofs.Try.f83 (bodyOf Go.Proofs.Try.f83)) := by kernel_rfl
theorem f173_eq : fs 173 = some (mkFn w173 Go.Proofs.Try.f173 (bodyOf Go.Proofs.Try.f173)) := by kernel_rfl
theorem f214_eq : fs 214 = some (mkFn {} Go.Proofs.Try.f214 (bodyOf Go.Proofs.Try.f214)) := by kernel_rfl
theorem f216_eq : fs 216 = some (mkFn {} Go.Proofs.Try.f216 (bodyOf Go.Proofs.Try.f216)) := by kernel_rfl
theorem f217_eq : fs 217 = some (mkFn {} Go.Proofs.Try.f217 (bodyOf Go.Proofs.Try.f217)) := by kernel_rfl

theorem f214_spec (e c : Int) (k1 k2 : Nat) (H : List Ent) (h1 : H[k1]? = some (.box [zI e])) (h2 : H[k2]? = some (.box [zI c])) (he : 1 ≤ e ∧ e ≤ 1073741824) (hc : 1 ≤ c ∧ c ≤ 1073741824) (Y : List YF) : callS ev fs 214 [.bp k1 0, .bp k2 0] H Y = some (.ret (zB true), H) := by
  refine callS_by f214_eq rfl ?_
  simp only [bodyOf, Go.Proofs.Try.f214, Option.getD_some]
  have a1 := f215_spec e 1 []
  have a2 := f215_spec c 1 []
  rw [decide_eq_true he] at a1
  rw [decide_eq_true hc] at a2
  simp only [go_sem] at a1 a2 h1 h2
  simp [go_sem, h1, h2, a1, a2]
theorem f216_spec (e : Int) (p : Sp) (k1 k2 : Nat) (H : List Ent) (h1 : H[k1]? = some (.box [zI e])) (h2 : H[k2]? = some (.box (spRow p))) (he : p.e ≤ e) (Y : List YF) : callS ev fs 216 [.bp k1 0, .bp k2 0] H Y = some (.ret (zB true), H) := by
  refine callS_by f216_eq rfl ?_
  simp only [bodyOf, Go.Proofs.Try.f216, Option.getD_some]
  simp only [go_sem] at h1 h2
  simp [go_sem, h1, h2, he]
theorem f217_spec (c : Int) (p : Sp) (k1 k2 : Nat) (H : List Ent) (h1 : H[k1]? = some (.box [zI c])) (h2 : H[k2]? = some (.box (spRow p))) (hc : p.t < c) (Y : List YF) : callS ev fs 217 [.bp k1 0, .bp k2 0] H Y = some (.ret (zB true), H) := by
  refine callS_by f217_eq rfl ?_
  simp only [bodyOf, Go.Proofs.Try.f217, Option.getD_some]
  simp only [go_sem] at h1 h2
  simp [go_sem, h1, h2, hc]

/-- The lineage with all cycles up to a further one. -/
def ext (l : List Sp) (e c : Int) : List Sp := match l.getLast? with
  | some x => if e = x.e then l.dropLast ++ [⟨x.e, x.f, c⟩] else l ++ [⟨e, x.t + 1, c⟩]
  | none => [⟨e, 1, c⟩]

theorem f173_rules (e c : Int) (p : Sp) (he : 1 ≤ e ∧ e ≤ 1073741824) (hc : 1 ≤ c ∧ c ≤ 1073741824) (h1 : p.e ≤ e) (h2 : p.t < c) (Y : List YF) :
    callS ev fs 213 [.os 3 0 3 0] [.box [zI e], .box [zI c], .box (spRow p), .own 0 2 [[.fn 214 [.bp 0 0, .bp 1 0], zI 2], [.fn 216 [.bp 0 0, .bp 2 0], zI 13], [.fn 217 [.bp 1 0, .bp 2 0], zI 8]]] Y =
      some (.ret (zI 0), [.box [zI e], .box [zI c], .box (spRow p), .own 0 2 [[.fn 214 [.bp 0 0, .bp 1 0], zI 2], [.fn 216 [.bp 0 0, .bp 2 0], zI 13], [.fn 217 [.bp 1 0, .bp 2 0], zI 8]]]) :=
  f213_spec [⟨214, [.bp 0 0, .bp 1 0], 2, true⟩, ⟨216, [.bp 0 0, .bp 2 0], 13, true⟩, ⟨217, [.bp 1 0, .bp 2 0], 8, true⟩] 3 0 _ rfl (by simp) Y (by intro r hr; simp at hr; rcases hr with rfl | rfl | rfl <;> rfl) rfl (by
    intro r hr B
    simp only [List.mem_cons, List.not_mem_nil, or_false] at hr
    rcases hr with rfl | rfl | rfl
    · exact f214_spec e c 0 1 _ rfl rfl he hc Y
    · exact f216_spec e p 0 2 _ rfl rfl h1 Y
    · exact f217_spec c p 1 2 _ rfl rfl h2 Y)

theorem f141_nil (H : List Ent) (Y : List YF) : callS ev fs 141 [.sc (.slice none 0 0)] H Y = some (.ret (.sc (.slice none 0 0)), H) := by
  refine callS_by f141_eq rfl ?_
  simp only [bodyOf, Go.Proofs.Try.f141, Option.getD_some]
  simp [go_sem]

theorem f173_spec (l : List Sp) (e c : Int) (hl : l.length < 100000000) (ho : spOk sp0 l = true) (he : 1 ≤ e ∧ e ≤ 1073741824) (hc : 1 ≤ c ∧ c ≤ 1073741824) (h1 : endE l ≤ e) (h2 : endT l < c) (Y : List YF) :
    callS ev fs 173 [zLin l, zI e, zI c] [] Y = some (.ret (.tup [zSps (ext l e c), zI 0]), []) := by
  have h174 := f174_lin l (by omega) ho []
  have hru := f173_rules e c (l.getLast?.getD sp0) he hc h1 h2 Y
  rcases List.eq_nil_or_concat l with rfl | ⟨init, x, rfl⟩
  · have h212 := f212_nil []
    have h141 := fun H => f141_nil H Y
    simp only [zLin, if_true] at h174 ⊢
    refine callS_by f173_eq rfl ?_
    simp only [bodyOf, Go.Proofs.Try.f173, Option.getD_some]
    simp only [go_sem, sp0, List.getLast?_nil, Option.getD_none] at h174 hru h212
    simp [go_sem, slLit, Go.Abs.chunks, h174, hru, h212, h141, ext, sp0, room_ok, show IntKind.wrap .i64 1 = 1 by decide]
  · simp only [List.concat_eq_append] at *
    have hne : ¬ init ++ [x] = [] := by simp
    have h212 := f212_spec (init ++ [x]) (by omega) []
    have h141 := fun H => f141_gen (init ++ [x]) H hne (by omega) Y
    have hlast : (init ++ [x]).getLast? = some x := by simp
    have hil : init.length < 100000000 := by simp at hl; omega
    rw [hlast] at hru h212
    simp only [Option.getD_some] at hru h212
    simp only [zLin, hne, if_false] at h174 ⊢
    have hx : ext (init ++ [x]) e c = if e = x.e then init ++ [⟨x.e, x.f, c⟩] else init ++ [x] ++ [⟨e, x.t + 1, c⟩] := by simp [ext]
    have hr : room (init.length + 1 + 1) 24 = true := room_ok (by omega) (by omega) (by omega)
    have hw : IntKind.wrap .i64 (x.t + 1) = x.t + 1 := wrap64 (by
      have : endT (init ++ [x]) = x.t := by simp [endT]
      have hp := spOk_last (init ++ [x]) sp0 sp0_good ho hne
      simp at hp
      omega)
    have hp1 : ∀ B, AV.pureLL B = true → AV.pureLL (spRows init ++ B) = true := fun B hB => pureLL_app (spRows_pure init) hB
    have ht1 : ∀ b, (spRows init ++ [b]).take (init.length + 1) = spRows init ++ [b] := fun b => List.take_of_length_le (by simp [spRows_len])
    have ht2 : ∀ b b', (spRows init ++ [b, b']).take (init.length + 1 + 1) = spRows init ++ [b, b'] := fun b b' => List.take_of_length_le (by simp [spRows_len])
    simp only [spRows] at hp1 ht1 ht2
    refine callS_by f173_eq rfl ?_
    simp only [bodyOf, Go.Proofs.Try.f173, Option.getD_some]
    rw [hx]
    simp only [go_sem] at h174 hru h212 h141
    by_cases hex : e = x.e
    · subst hex
      simp at h174 h212 h141
      simp [go_sem, slLit, Go.Abs.chunks, freeze_os, h174, hru, h212, h141, hil, hp1, ht1, ht2, show init.length < 1000000000 by omega]
    · simp at h174 h212 h141
      simp [go_sem, slLit, Go.Abs.chunks, freeze_os, h174, hru, h212, h141, hil, hex, hr, hw, hp1, ht1, ht2]

theorem spOk_app (x : Sp) : ∀ (l : List Sp) (p : Sp), spOk p (l ++ [x]) = true ↔ spOk p l = true ∧ spNext (l.getLast?.getD p) x
  | [], p => by simp [spOk]
  | y :: l, p => by
    simp only [List.cons_append, spOk]
    by_cases h : spNext p y
    · simp only [h, if_true]
      rw [spOk_app x l y]
      cases l with
      | nil => simp
      | cons z l =>
        rw [List.getLast?_cons_cons]
        cases hz : (z :: l).getLast? with
        | none => simp at hz
        | some u => simp
    · simp [h]
theorem spOk_good : ∀ (l : List Sp) (p : Sp), spGood p → spOk p l = true → spGood (l.getLast?.getD p)
  | [], p, h, _ => h
  | x :: l, p, h, ho => by
    simp only [spOk] at ho
    by_cases hn : spNext p x
    · simp only [hn, if_true] at ho
      have := spOk_good l x (spNext_good h hn) ho
      cases l with
      | nil => simpa using this
      | cons y l =>
        rw [List.getLast?_cons_cons]
        cases hz : (y :: l).getLast? with
        | none => simp at hz
        | some u => rw [hz] at this; simpa using this
    · simp [hn] at ho
theorem end_app (l : List Sp) (x : Sp) : endT (l ++ [x]) = x.t ∧ endE (l ++ [x]) = x.e := by simp [endT, endE]
theorem ext_ok {l : List Sp} {e c : Int} (ho : spOk sp0 l = true) (he : 1 ≤ e ∧ e ≤ 1073741824) (hc : c ≤ 1073741824) (h1 : endE l ≤ e) (h2 : endT l < c) :
    spOk sp0 (ext l e c) = true ∧ endT (ext l e c) = c ∧ endE (ext l e c) = e ∧ (ext l e c).length ≤ l.length + 1 ∧ ext l e c ≠ [] := by
  rcases List.eq_nil_or_concat l with rfl | ⟨init, x, rfl⟩
  · have h2' : 0 < c := h2
    have hn : spNext sp0 ⟨e, 1, c⟩ := by
      unfold spNext sp0
      simp only
      omega
    refine ⟨by simp [ext, spOk, hn], rfl, rfl, by simp [ext], by simp [ext]⟩
  · simp only [List.concat_eq_append] at *
    have hx : ext (init ++ [x]) e c = if e = x.e then init ++ [⟨x.e, x.f, c⟩] else init ++ [x] ++ [⟨e, x.t + 1, c⟩] := by simp [ext]
    have hg := spOk_good _ _ sp0_good ho
    simp only [List.getLast?_append, List.getLast?_singleton, Option.some_or, Option.getD_some] at hg
    obtain ⟨t1, t2⟩ := end_app init x
    obtain ⟨o1, o2⟩ := (spOk_app x init sp0).1 ho
    rw [hx]
    split
    · rename_i hex
      subst hex
      refine ⟨(spOk_app _ init sp0).2 ⟨o1, ?_⟩, (end_app _ _).1, (end_app _ _).2, by simp, by simp⟩
      unfold spNext at *
      simp only
      omega
    · rename_i hex
      refine ⟨(spOk_app _ (init ++ [x]) sp0).2 ⟨ho, ?_⟩, (end_app _ _).1, (end_app _ _).2, by simp, by simp⟩
      rw [show (init ++ [x]).getLast?.getD sp0 = x by simp]
      have hg2 : spGood x := by simpa using hg
      unfold spGood at hg2
      exact ⟨rfl, by simp only; omega, by simp only; omega, by simp only; omega, by simp only; omega, by simp only; omega⟩

@[go_sem] def zU8s (xs : List Int) : AV := .sl false 1 (xs.map fun n => [.sc (.int .u8 n)])
def growS (r : List Sp × Int × Int) (s : Int) : List Sp × Int × Int :=
  (ext r.1 (if s.tmod 3 = 0 then r.2.2 + 2 else r.2.2) (r.2.1 + (s.tmod 4 + 1)), r.2.1 + (s.tmod 4 + 1), if s.tmod 3 = 0 then r.2.2 + 2 else r.2.2)
def grow0 (l : List Sp) (odd : Int) : List Sp × Int × Int := (l, endT l, endE l + (2 - (endE l).tmod 2 + odd))
def grown (l : List Sp) (steps : List Int) (odd : Int) : List Sp × Int × Int := steps.foldl growS (grow0 l odd)
/-- What holds while a lineage grows: k bounds how far it may go on. -/
structure Grows (r : List Sp × Int × Int) (k : Nat) : Prop where
  ok : spOk sp0 r.1 = true
  t : endT r.1 = r.2.1
  e : endE r.1 ≤ r.2.2
  t0 : 0 ≤ r.2.1
  e1 : 1 ≤ r.2.2
  tb : r.2.1 + 4 * k ≤ 1000000
  eb : r.2.2 + 2 * k ≤ 1000000
  lb : r.1.length + k ≤ 1000000
theorem tmod_bounds {s : Int} (h : 0 ≤ s) : 0 ≤ s.tmod 4 ∧ s.tmod 4 ≤ 3 := by
  rw [Int.tmod_eq_emod_of_nonneg h]
  omega
theorem Grows.step {r : List Sp × Int × Int} {k : Nat} (h : Grows r (k + 1)) {s : Int} (hs : 0 ≤ s) : Grows (growS r s) k ∧ (growS r s).1 ≠ [] ∧ r.2.1 + 1 ≤ (growS r s).2.1 := by
  obtain ⟨m1, m2⟩ := tmod_bounds hs
  have hb := h.tb
  have hc := h.eb
  have h1 := h.e1
  have h0 := h.t0
  have hl := h.lb
  have he := h.e
  have ht := h.t
  have heb : 1 ≤ (if s.tmod 3 = 0 then r.2.2 + 2 else r.2.2) ∧ (if s.tmod 3 = 0 then r.2.2 + 2 else r.2.2) ≤ r.2.2 + 2 ∧ r.2.2 ≤ (if s.tmod 3 = 0 then r.2.2 + 2 else r.2.2) := by split <;> omega
  obtain ⟨k1, k2, k3, k4, k5⟩ := ext_ok (e := if s.tmod 3 = 0 then r.2.2 + 2 else r.2.2) (c := r.2.1 + (s.tmod 4 + 1)) h.ok (by omega) (by omega) (by omega) (by omega)
  refine ⟨⟨k1, k2, by unfold growS; simp only; omega, by unfold growS; simp only; omega, by unfold growS; simp only; omega, by unfold growS; simp only; omega, by unfold growS; simp only; omega, by unfold growS; simp only; omega⟩, k5, by unfold growS; simp only; omega⟩
theorem Grows.all {k : Nat} : ∀ (steps : List Int) (r : List Sp × Int × Int), (∀ s ∈ steps, 0 ≤ s) → Grows r (steps.length + k) → Grows (steps.foldl growS r) k ∧ r.2.1 + steps.length ≤ (steps.foldl growS r).2.1
  | [], r, _, h => ⟨by simpa using h, by simp⟩
  | s :: steps, r, hs, h => by
    simp only [List.length_cons] at h
    obtain ⟨h1, _, h3⟩ := Grows.step (k := steps.length + k) (by rw [show steps.length + k + 1 = steps.length + 1 + k by omega]; exact h) (hs s (by simp))
    obtain ⟨h4, h5⟩ := Grows.all steps (growS r s) (fun s' hs' => hs s' (by simp [hs'])) h1
    simp only [List.foldl_cons, List.length_cons]
    exact ⟨h4, by omega⟩

theorem zLin_cons {l : List Sp} (h : l ≠ []) : zLin l = zSps l := if_neg h
theorem f83_spec (l : List Sp) (steps : List Int) (odd : Int) (hs : ∀ s ∈ steps, 0 ≤ s ∧ s ≤ 255) (hsl : steps.length < 1000000) (hodd : odd = 0 ∨ odd = 1) (hg : Grows (grow0 l odd) steps.length) (Y : List YF) :
    callS ev fs 83 [zLin l, zU8s steps, zI odd] [] Y = some (.ret (.tup [zLin (grown l steps odd).1, zI (grown l steps odd).2.1, zB true]), []) := by
  refine callS_by f83_eq rfl ?_
  simp only [bodyOf, Go.Proofs.Try.f83, Option.getD_some]
  obtain ⟨R, hR⟩ := fold_loop (E := ev) (C := callS ev fs) (Y := Y) (w := {}) (a := (loopsOf (bodyOf Go.Proofs.Try.f83))[0]?.getD .skip) (b := 0) 
    steps (fun _ r s => .inl (growS r s)) (grow0 l odd) (ex := fun (r : Empty) => nomatch r)
    (fun i r st => Grows r (steps.length - i) ∧ Live [(0, zLin r.1), (9, zI r.2.1), (10, zI r.2.2), (39, zU8s steps), (40, zI steps.length), (41, zI i)] [] 0 st)
    (fun r => Live [(0, zLin r.1), (9, zI r.2.1)] [] 0) (fun r => nomatch r)
    (fun i r st hi h => by
      obtain ⟨hG, h⟩ := h
      obtain ⟨b0, b1⟩ := hs _ (List.getElem_mem hi)
      obtain ⟨m1, m2⟩ := tmod_bounds b0
      rw [show steps.length - i = steps.length - (i + 1) + 1 by omega] at hG
      obtain ⟨hG2, hne, _⟩ := hG.step b0
      have hb := hG.tb
      have hc := hG.eb
      have h1 := hG.e1
      have h0 := hG.t0
      have he := hG.e
      have ht := hG.t
      have hlb := hG.lb
      have heb : 1 ≤ (if steps[i].tmod 3 = 0 then r.2.2 + 2 else r.2.2) ∧ (if steps[i].tmod 3 = 0 then r.2.2 + 2 else r.2.2) ≤ r.2.2 + 2 ∧ r.2.2 ≤ (if steps[i].tmod 3 = 0 then r.2.2 + 2 else r.2.2) := by split <;> omega
      have h173 := f173_spec r.1 (if steps[i].tmod 3 = 0 then r.2.2 + 2 else r.2.2) (r.2.1 + (steps[i].tmod 4 + 1)) (by omega) hG.ok (by omega) (by omega) (by omega) (by omega) []
      have hz : zLin (growS r steps[i]).1 = zSps (ext r.1 (if steps[i].tmod 3 = 0 then r.2.2 + 2 else r.2.2) (r.2.1 + (steps[i].tmod 4 + 1))) := zLin_cons hne
      have hp : AV.pure (zLin r.1) = true := by unfold zLin; split <;> rfl
      have w1 := wrap64 (x := r.2.2 + 2) (by omega)
      have w2 := wrap64 (x := steps[i].tmod 4 + 1) (by omega)
      have w3 := wrap64 (x := r.2.1 + (steps[i].tmod 4 + 1)) (by omega)
      have w4 := wrap64 (x := steps[i]) (by omega)
      dsimp only
      rw [hz]
      have hg1 : (growS r steps[i]).2.1 = r.2.1 + (steps[i].tmod 4 + 1) := rfl
      have hg2 : (growS r steps[i]).2.2 = if steps[i].tmod 3 = 0 then r.2.2 + 2 else r.2.2 := rfl
      rw [hg1, hg2]
      obtain ⟨lz, hlz⟩ : ∃ lz, zLin r.1 = lz := ⟨_, rfl⟩
      rw [hlz] at h173 hp h
      obtain ⟨tm, H, b⟩ := st
      simp only [bodyOf, Go.Proofs.Try.f83, Option.getD_some, loopsOf, rangesOf, List.nil_append, List.append_nil, List.cons_append, List.getElem?_cons_zero, List.getElem?_cons_succ]
      simp only [go_sem] at h
      obtain ⟨g0, g9, g10, g39, g40, g41, rfl, rfl⟩ := h
      simp only [go_sem] at h173
      by_cases c3 : steps[i].tmod 3 = 0
      · simp only [c3, if_true] at h173 ⊢
        simp [go_sem, g0, g9, g10, g39, g40, g41, hi, hp, c3, w1, w2, w3, w4, h173, hG2, show i < 1000000000 by omega]
      · simp only [c3, if_false] at h173 ⊢
        simp [go_sem, g0, g9, g10, g39, g40, g41, hi, hp, c3, w2, w3, w4, h173, hG2, show i < 1000000000 by omega])
    (fun r st h => by
      obtain ⟨_, h⟩ := h
      obtain ⟨tm, H, b⟩ := st
      simp only [bodyOf, Go.Proofs.Try.f83, Option.getD_some, loopsOf, rangesOf, List.nil_append, List.append_nil, List.cons_append, List.getElem?_cons_zero, List.getElem?_cons_succ]
      simp only [go_sem] at h
      obtain ⟨g0, g9, g10, g39, g40, g41, rfl, rfl⟩ := h
      simp [go_sem, g0, g9, g10, g39, g40, g41])
    (fun r => nomatch r)
  simp only [bodyOf, Go.Proofs.Try.f83, Option.getD_some, loopsOf, rangesOf, List.nil_append, List.append_nil, List.cons_append, List.getElem?_cons_zero, List.getElem?_cons_succ] at hR
  rw [foldE_fold] at hR
  have hgr : steps.foldl growS (grow0 l odd) = grown l steps odd := rfl
  rw [hgr] at hR
  generalize grown l steps odd = gr at *
  have hb := hg.tb
  have hc := hg.eb
  have h1 := hg.e1
  have h0 := hg.t0
  have he := hg.e
  have hlb := hg.lb
  simp only [grow0] at hb hc h1 h0 he hlb
  have hR0 := fun st a b c d e f g h => hR st ⟨by simpa using hg, by simp only [go_sem, grow0]; exact ⟨a, b, c, d, e, f, g, h⟩⟩
  simp only [go_sem] at hR0
  have hp : AV.pure (zLin gr.1) = true := by unfold zLin; split <;> rfl
  generalize zLin gr.1 = zl at *
  rcases List.eq_nil_or_concat l with rfl | ⟨init, x, rfl⟩
  · have e1 : endT ([] : List Sp) = 0 := rfl
    have e2 : endE ([] : List Sp) = 0 := rfl
    simp only [zLin, if_true, e1, e2] at hR0 ⊢
    rcases hodd with rfl | rfl
    · simp [show (0 : Int).tmod 2 = 0 by decide] at hR0
      simp [go_sem, hR0, hp, show (0 : Int).tmod 2 = 0 by decide, show IntKind.wrap .i64 2 = 2 by decide, show IntKind.wrap .i64 0 = 0 by decide]
    · simp [show (0 : Int).tmod 2 = 0 by decide] at hR0
      simp [go_sem, hR0, hp, show (0 : Int).tmod 2 = 0 by decide, show IntKind.wrap .i64 2 = 2 by decide, show IntKind.wrap .i64 0 = 0 by decide, show IntKind.wrap .i64 3 = 3 by decide]
  · simp only [List.concat_eq_append] at *
    have hne : ¬ init ++ [x] = [] := by simp
    obtain ⟨t1, t2⟩ := end_app init x
    have hil : init.length < 1000000 := by simp at hlb; omega
    rw [t1, t2] at hR0
    rw [t2] at hc h1 he
    simp only [zLin, hne, if_false] at hR0 ⊢
    have hm : 0 ≤ x.e.tmod 2 ∧ x.e.tmod 2 ≤ 1 ∨ x.e < 0 := by
      by_cases hx : 0 ≤ x.e
      · rw [Int.tmod_eq_emod_of_nonneg hx]; omega
      · omega
    have hge : 0 ≤ x.e := by
      have := spOk_good _ _ sp0_good hg.ok
      simp only [grow0] at this
      rw [show (init ++ [x]).getLast?.getD sp0 = x by simp] at this
      unfold spGood at this
      omega
    have w1 := wrap64 (x := 2 - x.e.tmod 2) (by omega)
    have w2 := wrap64 (x := 2 - x.e.tmod 2 + odd) (by omega)
    have w3 := wrap64 (x := x.e + (2 - x.e.tmod 2 + odd)) (by omega)
    have hi : (init.length : Int) + 1 - 1 = init.length := by omega
    simp at hR0
    simp [go_sem, hR0, hp, w1, w2, w3, hi, hil, show init.length < 1000000000 by omega]
end Go.Proofs.Ytlphdiccffnckaa

/- A reader for layer 54: lists of bytes. -/
namespace Go.Proofs.Ytlphdiccffnckaa
open Go Go.Abs Go.ChangeShapes Go.WideShapes Go.ChangeAt Go.RowKit

section
variable {H : Type} {enc : TypeId × Value → H} {W : World}
theorem ut94 : Go.Proofs.Try.prog.underlying 94 = some (.slice 5) := by kernel_rfl
theorem rd_u8s : Rd enc Go.Proofs.Try.prog W 94 (fun l => [zU8s l]) (fun l => l.length ≤ maxLen ∧ ∀ n ∈ l, IntKind.min .u8 ≤ n ∧ n ≤ IntKind.max .u8) := Rd.slice ut94 c5 (by decide) (Rd.int ut5) (fun _ _ => by simp)
theorem arg_u8s : Arg1 enc Go.Proofs.Try.prog W 94 zU8s (fun l => l.length ≤ maxLen ∧ ∀ n ∈ l, IntKind.min .u8 ≤ n ∧ n ≤ IntKind.max .u8) := Arg1.cell (.inr (.inr ⟨_, ut94⟩)) rd_u8s
end
end Go.Proofs.Ytlphdiccffnckaa

/- Layer 54: the law SplitbrainSees. -/
namespace Go.Proofs.Ytlphdiccffnckaa
open Go Go.Abs
theorem f18_eq : fs 18 = some (mkFn w18 Go.Proofs.Try.f18 (bodyOf Go.Proofs.Try.f18)) := by kernel_rfl

theorem ext_shape (l m : List Sp) (e c o : Int) (h : m = [] → endE l ≠ e) (hm : ∀ x ∈ m, x.e % 2 = o) (he : e % 2 = o) : ∃ m', ext (l ++ m) e c = l ++ m' ∧ m' ≠ [] ∧ ∀ x ∈ m', x.e % 2 = o := by
  rcases List.eq_nil_or_concat m with rfl | ⟨m', y, rfl⟩
  · rw [List.append_nil]
    rcases List.eq_nil_or_concat l with rfl | ⟨init, x, rfl⟩
    · exact ⟨[⟨e, 1, c⟩], rfl, by simp, by simpa using he⟩
    · simp only [List.concat_eq_append] at *
      have hne := h (by trivial)
      rw [(end_app init x).2] at hne
      refine ⟨[⟨e, x.t + 1, c⟩], ?_, by simp, by simpa using he⟩
      simp [ext, Ne.symm hne]
  · simp only [List.concat_eq_append] at *
    have hx : ext (l ++ (m' ++ [y])) e c = if e = y.e then l ++ (m' ++ [⟨y.e, y.f, c⟩]) else l ++ (m' ++ [y] ++ [⟨e, y.t + 1, c⟩]) := by
      rw [← List.append_assoc]
      simp [ext]
    have hy := hm y (by simp)
    rw [hx]
    split
    · refine ⟨_, rfl, by simp, fun x hxm => ?_⟩
      rcases List.mem_append.1 hxm with hxm | hxm
      · exact hm x (by simp [hxm])
      · rw [List.mem_singleton] at hxm
        subst hxm
        exact hy
    · refine ⟨_, rfl, by simp, fun x hxm => ?_⟩
      rcases List.mem_append.1 hxm with hxm | hxm
      · exact hm x hxm
      · rw [List.mem_singleton] at hxm
        subst hxm
        exact he

theorem grown_shape (l : List Sp) (o : Int) : ∀ (steps : List Int) (r : List Sp × Int × Int) (m : List Sp), r.1 = l ++ m → r.2.2 % 2 = o → endE l < r.2.2 → (∀ x ∈ m, x.e % 2 = o) →
    ∃ m', (steps.foldl growS r).1 = l ++ m' ∧ (∀ x ∈ m', x.e % 2 = o) ∧ (steps = [] → m' = m) ∧ (steps ≠ [] → m' ≠ [])
  | [], r, m, h1, _, _, h4 => ⟨m, h1, h4, fun _ => rfl, fun h => absurd rfl h⟩
  | s :: steps, r, m, h1, h2, h3, h4 => by
    have he : (if s.tmod 3 = 0 then r.2.2 + 2 else r.2.2) % 2 = o := by split <;> omega
    have hg : endE l < (if s.tmod 3 = 0 then r.2.2 + 2 else r.2.2) := by split <;> omega
    obtain ⟨m1, e1, e2, e3⟩ := ext_shape l m (if s.tmod 3 = 0 then r.2.2 + 2 else r.2.2) (r.2.1 + (s.tmod 4 + 1)) o (fun _ => by omega) h4 he
    have hs : (growS r s).1 = l ++ m1 := by
      unfold growS
      simp only
      rw [h1]
      exact e1
    obtain ⟨m2, g1, g2, g3, g4⟩ := grown_shape l o steps (growS r s) m1 hs he hg e3
    refine ⟨m2, g1, g2, fun h => by simp at h, fun _ => ?_⟩
    by_cases hst : steps = []
    · rw [g3 hst]
      exact e2
    · exact g4 hst

theorem grow0_parity {l : List Sp} {odd : Int} (h : 0 ≤ endE l) (hodd : odd = 0 ∨ odd = 1) : (grow0 l odd).2.2 % 2 = odd ∧ endE l < (grow0 l odd).2.2 ∧ (grow0 l odd).2.2 ≤ endE l + 3 := by
  unfold grow0
  simp only
  rw [Int.tmod_eq_emod_of_nonneg h]
  omega

theorem anc_fork (a b : List Sp) (hab : a = [] ∨ b = [] ∨ ∃ x y a' b', a = x :: a' ∧ b = y :: b' ∧ x.e ≠ y.e) : ∀ (l : List Sp) (i : Nat) (r : Int × Int),
    (match foldE ancF i r ((l ++ a).zip (l ++ b)) with
      | .inl r => r
      | .inr r => r).1 = ((l.getLast?.map fun x => x.t).getD r.1)
  | [], i, r => by
    rcases hab with rfl | rfl | ⟨x, y, a', b', rfl, rfl, hne⟩
    · simp [foldE]
    · simp [foldE]
    · simp [foldE, ancF, hne]
  | x :: l, i, r => by
    simp only [List.cons_append, List.zip_cons_cons, foldE, ancF, if_true]
    rw [anc_fork a b hab l]
    cases l with
    | nil => simp [minI]
    | cons y l =>
      rw [List.getLast?_cons_cons]
      cases h : (y :: l).getLast? with
      | none => simp at h
      | some z => rfl
theorem getLast_t (l : List Sp) : ((l.getLast?.map fun x => x.t).getD 0) = endT l := by
  unfold endT
  cases l.getLast? with
  | none => rfl
  | some x => rfl

/-- What is cut off at a cycle that lies within. -/
theorem trunc_none (c : Int) : ∀ (l : List Sp) (p : Sp), spOk p l = true → c ≤ p.t → trunc c l = []
  | [], _, _, _ => rfl
  | x :: l, p, ho, hc => by
    simp only [spOk] at ho
    by_cases hn : spNext p x
    · simp only [hn, if_true] at ho
      unfold spNext at hn
      simp only [trunc]
      rw [if_neg (by omega)]
      exact trunc_none c l x ho (by omega)
    · simp [hn] at ho
theorem trunc_ok (c : Int) : ∀ (l : List Sp) (p : Sp), spOk p l = true → p.t ≤ c → c ≤ (l.getLast?.getD p).t →
    spOk p (trunc c l) = true ∧ ((trunc c l).getLast?.getD p).t = c ∧ ∀ (i : Nat) (r : Int × Int), r.1 = p.t → (match foldE ancF i r (l.zip (trunc c l)) with
      | .inl r => r
      | .inr r => r).1 = c
  | [], p, _, h1, h2 => by
    simp at h2
    refine ⟨rfl, by simp [trunc]; omega, fun i r hr => ?_⟩
    simp only [List.zip_nil_left, foldE]
    omega
  | x :: l, p, ho, h1, h2 => by
    simp only [spOk] at ho
    by_cases hn : spNext p x
    · simp only [hn, if_true] at ho
      by_cases hc : c = p.t
      · have htr : trunc c (x :: l) = [] := trunc_none c (x :: l) p (by simp [spOk, hn, ho]) (by omega)
        rw [htr]
        refine ⟨rfl, by simp [hc], fun i r hr => ?_⟩
        simp only [List.zip_nil_right, foldE]
        omega
      · have hn' := hn
        unfold spNext at hn
        have hxf : x.f ≤ c := by omega
        have hlast : ((x :: l).getLast?.getD p).t = (l.getLast?.getD x).t := by
          cases l with
          | nil => rfl
          | cons y l =>
            rw [List.getLast?_cons_cons]
            cases h : (y :: l).getLast? with
            | none => simp at h
            | some z => rfl
        rw [hlast] at h2
        simp only [trunc, hxf, if_true]
        by_cases hxc : x.t ≤ c
        · have hmin : minI x.t c = x.t := by unfold minI; rw [if_neg (by omega)]
          obtain ⟨g1, g2, g3⟩ := trunc_ok c l x ho hxc h2
          rw [hmin]
          refine ⟨by simp [spOk, hn', g1], ?_, fun i r hr => ?_⟩
          · cases ht : trunc c l with
            | nil => rw [ht] at g2; simpa using g2
            | cons y t =>
              rw [ht] at g2
              rw [List.getLast?_cons_cons]
              cases h : (y :: t).getLast? with
              | none => simp at h
              | some z => rw [h] at g2; simpa using g2
          · simp only [List.zip_cons_cons, foldE, ancF, if_true]
            exact g3 _ _ (by simp [minI])
        · have hmin : minI x.t c = c := by unfold minI; rw [if_pos (by omega)]
          have htr : trunc c l = [] := trunc_none c l x ho (by omega)
          rw [hmin, htr]
          have hn2 : spNext p ⟨x.e, x.f, c⟩ := by unfold spNext; simp only; omega
          refine ⟨by simp [spOk, hn2], rfl, fun i r hr => ?_⟩
          have hne : ¬ x.t = c := by omega
          simp only [List.zip_cons_cons, foldE, ancF, if_true, hne, if_false]
          exact hmin
    · simp [hn] at ho

theorem zLin_pure (l : List Sp) : AV.pure (zLin l) = true := by unfold zLin; split <;> rfl
theorem weak_lin (l : List Sp) : (if isNilSl (zLin l) = true then AV.sl false 3 [] else zLin l) = zSps l := by
  unfold zLin
  by_cases h : l = []
  · subst h; rfl
  · rw [if_neg h]; rfl

theorem ext_len (l : List Sp) (e c : Int) : (ext l e c).length ≤ l.length + 1 := by
  unfold ext
  cases h : l.getLast? with
  | none => simp
  | some x =>
    dsimp only
    by_cases hx : e = x.e
    · rw [if_pos hx, List.length_append, List.length_dropLast, List.length_singleton]
      omega
    · rw [if_neg hx, List.length_append, List.length_singleton]
      omega
theorem foldl_len : ∀ (zs : List Int) (r : List Sp × Int × Int), (zs.foldl growS r).1.length ≤ r.1.length + zs.length
  | [], r => by simp
  | s :: zs, r => by
    have h1 := foldl_len zs (growS r s)
    have h2 : (growS r s).1.length ≤ r.1.length + 1 := ext_len _ _ _
    simp only [List.foldl_cons, List.length_cons]
    omega
theorem f18_facts (cs xs ys : List Int) (hc : ∀ s ∈ cs, 0 ≤ s ∧ s ≤ 255) (hx : ∀ s ∈ xs, 0 ≤ s ∧ s ≤ 255) (hy : ∀ s ∈ ys, 0 ≤ s ∧ s ≤ 255) (lc : cs.length ≤ 12) (lx : xs.length ≤ 12) (ly : ys.length ≤ 12) :
    ∃ (l a b : List Sp) (n ea eb : Int), (∀ Y, callS ev fs 83 [.sc (.slice none 0 0), zU8s cs, zI 0] [] Y = some (.ret (.tup [zLin l, zI n, zB true]), [])) ∧
      (∀ Y, callS ev fs 83 [zLin l, zU8s xs, zI 0] [] Y = some (.ret (.tup [zLin a, zI ea, zB true]), [])) ∧ (∀ Y, callS ev fs 83 [zLin l, zU8s ys, zI 1] [] Y = some (.ret (.tup [zLin b, zI eb, zB true]), [])) ∧
      a.length < 10000 ∧ b.length < 10000 ∧ spOk sp0 a = true ∧
      (fork a b).1 = n ∧ (fork b a).1 = n ∧ (fork a b).2 = (decide (0 < xs.length) && decide (0 < ys.length)) ∧ (fork b a).2 = (decide (0 < xs.length) && decide (0 < ys.length)) ∧
      (cs.length + xs.length : Int) ≤ endT a ∧ (fork a (trunc (cs.length + xs.length) a)).1 = cs.length + xs.length ∧ (fork a (trunc (cs.length + xs.length) a)).2 = false := by
  have g0 : Grows (grow0 [] 0) (cs.length + 100) := ⟨rfl, rfl, by decide, by decide, by decide, by unfold grow0; simp only; have : endT ([] : List Sp) = 0 := rfl; omega, by
    have : (grow0 [] 0).2.2 = 2 := by decide
    omega, by simp [grow0]; omega⟩
  obtain ⟨G, hn⟩ := Grows.all cs (grow0 [] 0) (fun s hs => (hc s hs).1) g0
  have hl := fun Y => f83_spec [] cs 0 hc (by omega) (.inl rfl) ⟨g0.ok, g0.t, g0.e, g0.t0, g0.e1, by have := g0.tb; omega, by have := g0.eb; omega, by have := g0.lb; omega⟩ Y
  obtain ⟨m0, s1, s2, s3, s4⟩ := grown_shape [] 0 cs (grow0 [] 0) [] rfl (by decide) (by decide) (by simp)
  have hn0 : (grow0 [] 0).2.1 = 0 := rfl
  rw [hn0] at hn
  have hgr : cs.foldl growS (grow0 [] 0) = grown [] cs 0 := rfl
  rw [hgr] at G hn
  have k1 := G.ok
  have k2 := G.t
  have k3 := G.e
  have k4 := G.tb
  have k5 := G.eb
  have k6 := G.lb
  have k7 := G.t0
  have k8 := G.e1
  have hll0 : (grown [] cs 0).1.length ≤ cs.length := by
    have := foldl_len cs (grow0 [] 0)
    have h0 : (grow0 [] 0).1.length = 0 := rfl
    rw [h0, Nat.zero_add] at this
    exact this
  generalize hr0 : grown [] cs 0 = r0 at *
  obtain ⟨l, n, e⟩ := r0
  simp only at k1 k2 k3 k4 k5 k6 k7 k8 hn hll0
  have hgood := spOk_good l sp0 sp0_good k1
  have hE0 : 0 ≤ endE l := by
    unfold spGood at hgood
    exact hgood.2.2.1
  have hT0 : 0 ≤ endT l := by omega
  have next : ∀ (zs : List Int) (o : Int), (∀ s ∈ zs, 0 ≤ s ∧ s ≤ 255) → zs.length ≤ 12 → (o = 0 ∨ o = 1) → ∃ m en, (∀ Y, callS ev fs 83 [zLin l, zU8s zs, zI o] [] Y = some (.ret (.tup [zLin (l ++ m), zI en, zB true]), [])) ∧ spOk sp0 (l ++ m) = true ∧ (∀ x ∈ m, x.e % 2 = o) ∧
      (zs = [] → m = []) ∧ (zs ≠ [] → m ≠ []) ∧ endT l + zs.length ≤ endT (l ++ m) ∧ (l ++ m).length < 10000 := by
    intro zs o hz lz ho
    obtain ⟨p1, p2, p3⟩ := grow0_parity hE0 ho
    have gz : Grows (grow0 l o) (zs.length + 80) := ⟨k1, rfl, by unfold grow0 at *; simp only at *; omega, by unfold grow0; exact hT0, by omega, by unfold grow0; simp only; omega, by omega, by unfold grow0; simp only; omega⟩
    obtain ⟨G2, hn2⟩ := Grows.all zs (grow0 l o) (fun s hs => (hz s hs).1) gz
    have hf := fun Y => f83_spec l zs o hz (by omega) ho ⟨gz.ok, gz.t, gz.e, gz.t0, gz.e1, by have := gz.tb; omega, by have := gz.eb; omega, by have := gz.lb; omega⟩ Y
    obtain ⟨m, q1, q2, q3, q4⟩ := grown_shape l o zs (grow0 l o) [] (by simp [grow0]) p1 p2 (by simp)
    have hgr2 : zs.foldl growS (grow0 l o) = grown l zs o := rfl
    rw [hgr2] at G2 hn2 q1
    have j1 := G2.ok
    have j2 := G2.t
    have j3 := G2.lb
    have hl3 : (grow0 l o).2.1 = endT l := rfl
    rw [hl3] at hn2
    have hlen : (grown l zs o).1.length ≤ l.length + zs.length := foldl_len zs (grow0 l o)
    refine ⟨m, (grown l zs o).2.1, fun Y => ?_, by rw [← q1]; exact j1, q2, q3, q4, ?_, ?_⟩
    · have := hf Y
      rw [q1] at this
      exact this
    · rw [← q1, j2]
      exact hn2
    · rw [← q1]
      omega
  obtain ⟨m1, ea, a1, a2, a3, a4, a5, a6, a7⟩ := next xs 0 hx lx (.inl rfl)
  obtain ⟨m2, eb, b1, b2, b3, b4, b5, b6, b7⟩ := next ys 1 hy ly (.inr rfl)
  have hdif : m1 = [] ∨ m2 = [] ∨ ∃ x y a' b', m1 = x :: a' ∧ m2 = y :: b' ∧ x.e ≠ y.e := by
    cases m1 with
    | nil => exact .inl rfl
    | cons x a' =>
      cases m2 with
      | nil => exact .inr (.inl rfl)
      | cons y b' =>
        refine .inr (.inr ⟨x, y, a', b', rfl, rfl, fun h => ?_⟩)
        have h1 := a3 x (by simp)
        have h2 := b3 y (by simp)
        omega
  have hdif' : m2 = [] ∨ m1 = [] ∨ ∃ x y a' b', m2 = x :: a' ∧ m1 = y :: b' ∧ x.e ≠ y.e := by
    rcases hdif with h | h | ⟨x, y, a', b', h1, h2, h3⟩
    · exact .inr (.inl h)
    · exact .inl h
    · exact .inr (.inr ⟨y, x, b', a', h2, h1, Ne.symm h3⟩)
  have hanc : (anc (l ++ m1) (l ++ m2)).1 = endT l := by
    have := anc_fork m1 m2 hdif l 0 (0, 0)
    rw [getLast_t] at this
    exact this
  have hanc' : (anc (l ++ m2) (l ++ m1)).1 = endT l := by
    have := anc_fork m2 m1 hdif' l 0 (0, 0)
    rw [getLast_t] at this
    exact this
  have hxl : decide (endT l < endT (l ++ m1)) = decide (0 < xs.length) := by
    by_cases h : xs = []
    · rw [a4 h, List.append_nil]
      simp [h]
    · have : 0 < xs.length := by
        have : xs.length ≠ 0 := by simpa using h
        omega
      rw [decide_eq_true this, decide_eq_true (by omega)]
  have hyl : decide (endT l < endT (l ++ m2)) = decide (0 < ys.length) := by
    by_cases h : ys = []
    · rw [b4 h, List.append_nil]
      simp [h]
    · have : 0 < ys.length := by
        have : ys.length ≠ 0 := by simpa using h
        omega
      rw [decide_eq_true this, decide_eq_true (by omega)]
  have hend : (cs.length + xs.length : Int) ≤ endT (l ++ m1) := by omega
  obtain ⟨t1, t2, t3⟩ := trunc_ok (cs.length + xs.length) (l ++ m1) sp0 a2 (by simp [sp0]; omega) hend
  have hta : (anc (l ++ m1) (trunc (cs.length + xs.length) (l ++ m1))).1 = cs.length + xs.length := t3 0 (0, 0) rfl
  have hte : endT (trunc (cs.length + xs.length) (l ++ m1)) = cs.length + xs.length := t2
  refine ⟨l, l ++ m1, l ++ m2, n, ea, eb, hl, a1, b1, a7, b7, a2, ?_, ?_, ?_, ?_, hend, ?_, ?_⟩
  · simp only [fork, a2, b2, if_true, hanc]
    exact k2
  · simp only [fork, a2, b2, if_true, hanc']
    exact k2
  · simp only [fork, a2, b2, if_true, hanc, Bool.decide_and, hxl, hyl]
  · simp only [fork, a2, b2, if_true, hanc', Bool.decide_and, hxl, hyl]
    exact Bool.and_comm _ _
  · simp only [fork, a2, t1, if_true]
    exact hta
  · simp only [fork, a2, t1, if_true, hta, hte]
    simp

theorem f18_spec (cs xs ys : List Int) (hc : ∀ s ∈ cs, 0 ≤ s ∧ s ≤ 255) (hx : ∀ s ∈ xs, 0 ≤ s ∧ s ≤ 255) (hy : ∀ s ∈ ys, 0 ≤ s ∧ s ≤ 255) (Y : List YF) : callS ev fs 18 [zU8s cs, zU8s xs, zU8s ys] [] Y = some (.ret (zB true), []) := by
  refine callS_by f18_eq rfl ?_
  simp only [bodyOf, Go.Proofs.Try.f18, Option.getD_some]
  have hw := f61_call
  simp only [go_sem] at hw
  by_cases lc : 12 < cs.length
  · simp [go_sem, lc, hw]
  by_cases lx : 12 < xs.length
  · simp [go_sem, lc, lx, hw]
  by_cases ly : 12 < ys.length
  · simp [go_sem, lc, lx, ly, hw]
  obtain ⟨l, a, b, n, ea, eb, h1, h2, h3, al, bl, ao, f1, f2, f3, f4, he, f5, f6⟩ := f18_facts cs xs ys hc hx hy (by omega) (by omega) (by omega)
  have h1 := h1 []
  have h2 := h2 []
  have h3 := h3 []
  have h62a := f62_spec a b (by omega) (by omega) []
  have h62b := f62_spec b a (by omega) (by omega) []
  have h84 := f84_spec a (cs.length + xs.length) (by omega) ao []
  have htl := trunc_len (cs.length + xs.length) a
  have h62c := f62_spec a (trunc (cs.length + xs.length) a) (by omega) (by omega) []
  rw [f1, f3] at h62a
  rw [f2, f4] at h62b
  rw [f5, f6] at h62c
  have pl := zLin_pure l
  have pa := zLin_pure a
  have pb := zLin_pure b
  have wa := weak_lin a
  have wb := weak_lin b
  have hwr := wrap64 (x := (cs.length : Int) + xs.length) (by omega)
  generalize hlz : zLin l = lz at *
  generalize htr : trunc (cs.length + xs.length) a = tr at *
  have hbs : zLin b = .sc (.slice none 0 0) ∧ zSps b = .sl false 3 [] ∨ zLin b = zSps b := by
    unfold zLin
    by_cases h : b = []
    · left; subst h; exact ⟨rfl, rfl⟩
    · right; rw [if_neg h]
  rcases List.eq_nil_or_concat a with rfl | ⟨init, x, rfl⟩
  · have he' : ¬ (0 : Int) < (cs.length : Int) + xs.length := by
      have : (cs.length : Int) + xs.length ≤ 0 := he
      omega
    have hza : zLin [] = .sc (.slice none 0 0) := rfl
    rw [hza] at h2
    rcases hbs with ⟨hb1, hb2⟩ | hb1
    · rw [hb1] at h3
      rw [hb2] at h62a h62b
      by_cases p1 : 0 < xs.length
      · omega
      by_cases p2 : 0 < ys.length
      · simp only [p1, p2, decide_true, decide_false, Bool.and_false, Bool.and_true] at h62a h62b
        simp only [go_sem, List.map_nil] at h1 h2 h3 h62a h62b h62c h84
        simp [go_sem, lc, lx, ly, hw, h1, h2, h3, h62a, h62b, h62c, h84, pl, hwr, he', p1, p2]
      · simp only [p1, p2, decide_true, decide_false, Bool.and_false, Bool.and_true] at h62a h62b
        simp only [go_sem, List.map_nil] at h1 h2 h3 h62a h62b h62c h84
        simp [go_sem, lc, lx, ly, hw, h1, h2, h3, h62a, h62b, h62c, h84, pl, hwr, he', p1, p2]
    · rw [hb1] at h3
      by_cases p1 : 0 < xs.length
      · omega
      by_cases p2 : 0 < ys.length
      · simp only [p1, p2, decide_true, decide_false, Bool.and_false, Bool.and_true] at h62a h62b
        simp only [go_sem, List.map_nil] at h1 h2 h3 h62a h62b h62c h84
        simp [go_sem, lc, lx, ly, hw, h1, h2, h3, h62a, h62b, h62c, h84, pl, hwr, he', p1, p2]
      · simp only [p1, p2, decide_true, decide_false, Bool.and_false, Bool.and_true] at h62a h62b
        simp only [go_sem, List.map_nil] at h1 h2 h3 h62a h62b h62c h84
        simp [go_sem, lc, lx, ly, hw, h1, h2, h3, h62a, h62b, h62c, h84, pl, hwr, he', p1, p2]
  · simp only [List.concat_eq_append] at *
    have hne : ¬ init ++ [x] = [] := by simp
    have hza : zLin (init ++ [x]) = zSps (init ++ [x]) := zLin_cons hne
    rw [hza] at h2
    have hil : init.length < 1000000000 := by simp at al; omega
    have hi : (init.length : Int) + 1 - 1 = init.length := by omega
    rw [(end_app init x).1] at he
    have he' : ¬ x.t < (cs.length : Int) + xs.length := by omega
    rcases hbs with ⟨hb1, hb2⟩ | hb1
    · rw [hb1] at h3
      rw [hb2] at h62a h62b
      by_cases p1 : 0 < xs.length
      · by_cases p2 : 0 < ys.length
        · simp only [p1, p2, decide_true, decide_false, Bool.and_false, Bool.and_true] at h62a h62b
          simp only [go_sem, List.map_append, List.map_cons, List.map_nil] at h1 h2 h3 h62a h62b h62c h84
          simp [go_sem, lc, lx, ly, hw, h1, h2, h3, h62a, h62b, h62c, h84, pl, hwr, he', hil, hi, p1, p2]
        · simp only [p1, p2, decide_true, decide_false, Bool.and_false, Bool.and_true] at h62a h62b
          simp only [go_sem, List.map_append, List.map_cons, List.map_nil] at h1 h2 h3 h62a h62b h62c h84
          simp [go_sem, lc, lx, ly, hw, h1, h2, h3, h62a, h62b, h62c, h84, pl, hwr, he', hil, hi, p1, p2]
      · by_cases p2 : 0 < ys.length
        · simp only [p1, p2, decide_true, decide_false, Bool.and_false, Bool.and_true] at h62a h62b
          simp only [go_sem, List.map_append, List.map_cons, List.map_nil] at h1 h2 h3 h62a h62b h62c h84
          simp [go_sem, lc, lx, ly, hw, h1, h2, h3, h62a, h62b, h62c, h84, pl, hwr, he', hil, hi, p1, p2]
        · simp only [p1, p2, decide_true, decide_false, Bool.and_false, Bool.and_true] at h62a h62b
          simp only [go_sem, List.map_append, List.map_cons, List.map_nil] at h1 h2 h3 h62a h62b h62c h84
          simp [go_sem, lc, lx, ly, hw, h1, h2, h3, h62a, h62b, h62c, h84, pl, hwr, he', hil, hi, p1, p2]
    · rw [hb1] at h3
      by_cases p1 : 0 < xs.length
      · by_cases p2 : 0 < ys.length
        · simp only [p1, p2, decide_true, decide_false, Bool.and_false, Bool.and_true] at h62a h62b
          simp only [go_sem, List.map_append, List.map_cons, List.map_nil] at h1 h2 h3 h62a h62b h62c h84
          simp [go_sem, lc, lx, ly, hw, h1, h2, h3, h62a, h62b, h62c, h84, pl, hwr, he', hil, hi, p1, p2]
        · simp only [p1, p2, decide_true, decide_false, Bool.and_false, Bool.and_true] at h62a h62b
          simp only [go_sem, List.map_append, List.map_cons, List.map_nil] at h1 h2 h3 h62a h62b h62c h84
          simp [go_sem, lc, lx, ly, hw, h1, h2, h3, h62a, h62b, h62c, h84, pl, hwr, he', hil, hi, p1, p2]
      · by_cases p2 : 0 < ys.length
        · simp only [p1, p2, decide_true, decide_false, Bool.and_false, Bool.and_true] at h62a h62b
          simp only [go_sem, List.map_append, List.map_cons, List.map_nil] at h1 h2 h3 h62a h62b h62c h84
          simp [go_sem, lc, lx, ly, hw, h1, h2, h3, h62a, h62b, h62c, h84, pl, hwr, he', hil, hi, p1, p2]
        · simp only [p1, p2, decide_true, decide_false, Bool.and_false, Bool.and_true] at h62a h62b
          simp only [go_sem, List.map_append, List.map_cons, List.map_nil] at h1 h2 h3 h62a h62b h62c h84
          simp [go_sem, lc, lx, ly, hw, h1, h2, h3, h62a, h62b, h62c, h84, pl, hwr, he', hil, hi, p1, p2]
end Go.Proofs.Ytlphdiccffnckaa
