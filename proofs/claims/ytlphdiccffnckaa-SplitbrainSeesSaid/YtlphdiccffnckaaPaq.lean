/- Texts put together: Iqa, Iqb. -/
import Derived.Test.YtlphdiccffnckaaPap

/- Layers 13 and 54: rules that are asked one behind the other; the spans of a lineage with those before them. -/
namespace Go.Proofs.Ytlphdiccffnckaa
open Go Go.Abs
theorem f174_eq : fs 174 = some (mkFn w174 Go.Proofs.Try.f174 (bodyOf Go.Proofs.Try.f174)) := by kernel_rfl
theorem f175_eq : fs 175 = some (mkFn w175 Go.Proofs.Try.f175 (bodyOf Go.Proofs.Try.f175)) := by kernel_rfl
theorem f212_eq : fs 212 = some (mkFn w212 Go.Proofs.Try.f212 (bodyOf Go.Proofs.Try.f212)) := by kernel_rfl
theorem f213_eq : fs 213 = some (mkFn w213 Go.Proofs.Try.f213 (bodyOf Go.Proofs.Try.f213)) := by kernel_rfl
theorem f215_eq : fs 215 = some (mkFn {} Go.Proofs.Try.f215 (bodyOf Go.Proofs.Try.f215)) := by kernel_rfl
theorem f218_eq : fs 218 = some (mkFn {} Go.Proofs.Try.f218 (bodyOf Go.Proofs.Try.f218)) := by kernel_rfl
theorem f219_eq : fs 219 = some (mkFn {} Go.Proofs.Try.f219 (bodyOf Go.Proofs.Try.f219)) := by kernel_rfl
theorem f220_eq : fs 220 = some (mkFn {} Go.Proofs.Try.f220 (bodyOf Go.Proofs.Try.f220)) := by kernel_rfl
theorem f221_eq : fs 221 = some (mkFn {} Go.Proofs.Try.f221 (bodyOf Go.Proofs.Try.f221)) := by kernel_rfl
theorem f222_eq : fs 222 = some (mkFn w222 Go.Proofs.Try.f222 (bodyOf Go.Proofs.Try.f222)) := by kernel_rfl

theorem app_at' {H : List Ent} {k : Nat} {e : Ent} (h : H[k]? = some e) (B : List Ent) : (H ++ B)[k]? = some e := get_app h

/-- A condition with its error. -/
structure Rule where
  g : Nat
  caps : List AV
  e : Int
  ok : Bool
def firstBad : List Rule → Int
  | [] => 0
  | r :: rs => if r.ok = true then firstBad rs else r.e
theorem foldE_rules : ∀ (rs : List Rule) (i : Nat), foldE (fun _ (_ : Unit) (r : Rule) => if r.ok = true then .inl () else .inr r.e) i () rs = if rs.all (·.ok) = true then .inl () else .inr (firstBad rs)
  | [], _ => rfl
  | r :: rs, i => by
    simp only [foldE, firstBad, List.all_cons]
    by_cases h : r.ok = true
    · simp only [h, if_true, Bool.true_and]
      exact foldE_rules rs (i + 1)
    · simp [h]

theorem f213_spec (rs : List Rule) (k vr : Nat) (H : List Ent) (hk : H[k]? = some (.own vr 2 (rs.map fun r => [.fn r.g r.caps, .sc (.int .i64 r.e)]))) (hl : rs.length < 1000) (Y : List YF) (hst : ∀ r ∈ rs, AV.stillL r.caps = true)
    (hall : rs.all (·.ok) = true) (hg : ∀ r ∈ rs, ∀ B, callS ev fs r.g r.caps (H ++ B) Y = some (.ret (zB r.ok), H ++ B)) : callS ev fs 213 [.os k 0 rs.length vr] H Y = some (.ret (zI 0), H) := by
  have hkl := (List.getElem?_eq_some_iff.1 hk).1
  have gk := fun B => app_at' hk B
  have hE := getE hk hkl
  refine callS_by f213_eq rfl ?_
  simp only [bodyOf, Go.Proofs.Try.f213, Option.getD_some]
  obtain ⟨R, hR⟩ := fold_loop (E := ev) (C := callS ev fs) (Y := Y) (w := w213) (a := (loopsOf (bodyOf Go.Proofs.Try.f213))[0]?.getD .skip) (b := 0) 
    rs (fun _ (_ : Unit) (r : Rule) => if r.ok = true then .inl () else .inr r.e) () (ex := fun _ => .ret)
    (fun i _ st => (∃ B, st.H = H ++ B) ∧ LiveT [(0, .os k 0 rs.length vr), (5, .os k 0 rs.length vr), (6, zI rs.length), (7, zI i)] H.length st)
    (fun _ => Live [] H H.length) (fun _ _ => True)
    (fun i s st hi h => by
      obtain ⟨⟨B, hH⟩, h⟩ := h
      have hgi := hg rs[i] (List.getElem_mem hi)
      have hsi := hst rs[i] (List.getElem_mem hi)
      have hoki : rs[i].ok = true := (List.all_eq_true.1 hall) _ (List.getElem_mem hi)
      rw [hoki] at hgi
      simp only [hoki, if_true]
      obtain ⟨tm, H, b⟩ := st
      simp only [bodyOf, Go.Proofs.Try.f213, Option.getD_some, loopsOf, rangesOf, List.nil_append, List.append_nil, List.cons_append, List.getElem?_cons_zero, List.getElem?_cons_succ]
      simp only [go_sem] at h
      obtain ⟨g0, g5, g6, g7, rfl⟩ := h
      simp only at hH
      subst hH
      simp only [go_sem] at hgi
      simp [go_sem, g0, g5, g6, g7, hk, gk, hE, hkl, hi, hgi, hsi, show i < 1000000000 by omega])
    (fun s st h => by
      obtain ⟨⟨B, hH⟩, h⟩ := h
      obtain ⟨tm, H, b⟩ := st
      simp only [bodyOf, Go.Proofs.Try.f213, Option.getD_some, loopsOf, rangesOf, List.nil_append, List.append_nil, List.cons_append, List.getElem?_cons_zero, List.getElem?_cons_succ]
      simp only [go_sem] at h
      obtain ⟨g0, g5, g6, g7, rfl⟩ := h
      simp only at hH
      subst hH
      simp [go_sem, g0, g5, g6, g7, hk, hkl])
    (fun _ h => by cases h)
  simp only [bodyOf, Go.Proofs.Try.f213, Option.getD_some, loopsOf, rangesOf, List.nil_append, List.append_nil, List.cons_append, List.getElem?_cons_zero, List.getElem?_cons_succ] at hR
  rw [foldE_rules, hall] at hR
  simp [go_sem] at hR
  have hR0 := fun st a b c d e f => hR st [] (by simpa using a) b c d e f
  simp [go_sem, hk, hR0]

theorem f215_spec (n low : Int) (Y : List YF) : callS ev fs 215 [zI n, zI low] [] Y = some (.ret (zB (decide (low ≤ n ∧ n ≤ 1073741824))), []) := by
  refine callS_by f215_eq rfl ?_
  simp only [bodyOf, Go.Proofs.Try.f215, Option.getD_some]
  by_cases h : low ≤ n
  · simp [go_sem, h]
  · simp [go_sem, h]
theorem f218_spec (x : Sp) (k : Nat) (H : List Ent) (hk : H[k]? = some (.box (spRow x))) (h : (1 ≤ x.e ∧ x.e ≤ 1073741824) ∧ (1 ≤ x.f ∧ x.f ≤ 1073741824) ∧ (1 ≤ x.t ∧ x.t ≤ 1073741824)) (Y : List YF) : callS ev fs 218 [.bp k 0] H Y = some (.ret (zB true), H) := by
  refine callS_by f218_eq rfl ?_
  simp only [bodyOf, Go.Proofs.Try.f218, Option.getD_some]
  have h1 := f215_spec x.e 1 []
  have h2 := f215_spec x.f 1 []
  have h3 := f215_spec x.t 1 []
  rw [decide_eq_true h.1] at h1
  rw [decide_eq_true h.2.1] at h2
  rw [decide_eq_true h.2.2] at h3
  simp only [go_sem] at h1 h2 h3 hk
  simp [go_sem, hk, h1, h2, h3]
theorem f219_spec (x : Sp) (k : Nat) (H : List Ent) (hk : H[k]? = some (.box (spRow x))) (h : x.f ≤ x.t) (Y : List YF) : callS ev fs 219 [.bp k 0] H Y = some (.ret (zB true), H) := by
  refine callS_by f219_eq rfl ?_
  simp only [bodyOf, Go.Proofs.Try.f219, Option.getD_some]
  simp only [go_sem] at hk
  simp [go_sem, hk, h]
theorem f220_spec (x p : Sp) (k kp : Nat) (H : List Ent) (hk : H[k]? = some (.box (spRow x))) (hp : H[kp]? = some (.box (spRow p))) (hg : spGood p) (h : x.f = p.t + 1) (Y : List YF) : callS ev fs 220 [.bp k 0, .bp kp 0] H Y = some (.ret (zB true), H) := by
  refine callS_by f220_eq rfl ?_
  simp only [bodyOf, Go.Proofs.Try.f220, Option.getD_some]
  have hw := wrap64 (x := p.t + 1) (by unfold spGood at hg; omega)
  simp only [go_sem] at hk hp
  simp [go_sem, hk, hp, h, hw]
theorem f221_spec (x p : Sp) (k kp : Nat) (H : List Ent) (hk : H[k]? = some (.box (spRow x))) (hp : H[kp]? = some (.box (spRow p))) (h : p.e < x.e) (Y : List YF) : callS ev fs 221 [.bp k 0, .bp kp 0] H Y = some (.ret (zB true), H) := by
  refine callS_by f221_eq rfl ?_
  simp only [bodyOf, Go.Proofs.Try.f221, Option.getD_some]
  simp only [go_sem] at hk hp
  simp [go_sem, hk, hp, h]

theorem f175_spec (l : List Sp) (H : List Ent) (Y : List YF) : callS ev fs 175 [zSps l] H Y = some (.ret (.fn 222 [.bp H.length 0]), H ++ [.box [zSps l]]) := by
  refine callS_by f175_eq rfl ?_
  simp only [bodyOf, Go.Proofs.Try.f175, Option.getD_some]
  simp [go_sem]
theorem f212_spec (l : List Sp) (hl : l.length < 1000000000) (Y : List YF) : callS ev fs 212 [zSps l] [] Y = some (.ret (.agg (spRow (l.getLast?.getD sp0))), []) := by
  refine callS_by f212_eq rfl ?_
  simp only [bodyOf, Go.Proofs.Try.f212, Option.getD_some]
  by_cases h0 : l = []
  · subst h0
    simp [go_sem, sp0]
  · obtain ⟨hlt, he⟩ := last_get l h0
    rw [he]
    have h0' : ¬ l.length = 0 := by simpa using h0
    have hi : (l.length : Int) - 1 = ((l.length - 1 : Nat) : Int) := by omega
    generalize hk : l.length - 1 = k at *
    simp [go_sem, h0, h0', hi, hlt, show k < 1000000000 by omega]
theorem f212_nil (Y : List YF) : callS ev fs 212 [.sc (.slice none 0 0)] [] Y = some (.ret (.agg (spRow sp0)), []) := by
  refine callS_by f212_eq rfl ?_
  simp only [bodyOf, Go.Proofs.Try.f212, Option.getD_some]
  simp [go_sem, sp0]

def prevOf (l : List Sp) (i : Nat) : Sp := if i = 0 then sp0 else (l[i - 1]?).getD sp0
theorem f222_spec {σ : Type} (f : Nat → σ → Sp → σ) (P : Nat → σ → List Ent → Prop) (l : List Sp) (kb j : Nat) (y : YF) (Y : List YF) (s0 s1 : σ) (G : List Ent) (hl : l.length < 1000000000) (hy : Y[j]? = some y) (hkb : kb < G.length)
    (hP : ∀ i s G', P i s G' → G'.length = G.length ∧ AV.underLL 0 [] = true)
    (hG : G[kb]? = some (.box [zSps l]))
    (hyield : ∀ i s G', ∀ hi : i < l.length, P i s G' → ∃ G'', y [.agg (spRow (prevOf l i)), .agg (spRow l[i])] (G' ++ [.box (spRow (prevOf l i)), .box (spRow l[i])]) = some (.ret (.sc (.bool true)), G'' ++ [.box (spRow (prevOf l i)), .box (spRow l[i])]) ∧ P (i + 1) (f i s l[i]) G'')
    (h0 : P 0 s0 G) (hs : foldE (ρ := Empty) (fun i s x => .inl (f i s x)) 0 s0 l = .inl s1) :
    ∃ G', callS ev fs 222 [.yl j, .bp kb 0] G Y = some (.ret (.tup []), G') ∧ P l.length s1 G' := by
  obtain ⟨R, hR⟩ := fold_loop (E := ev) (C := callS ev fs) (Y := Y) (w := w222) (a := (loopsOf (bodyOf Go.Proofs.Try.f222))[0]?.getD .skip) (b := 0) 
    l (fun i s x => .inl (f i s x)) s0 (ex := fun (r : Empty) => nomatch r)
    (fun i s st => (∃ G' B, P i s G' ∧ st.H = G' ++ .box (spRow (prevOf l i)) :: B) ∧ LiveT [(0, .yl j), (1, .bp kb 0), (3, .bp G.length 0), (7, zSps l), (8, zI l.length), (9, zI i)] G.length st)
    (fun s st => (∃ G', P l.length s G' ∧ ∃ b, st.H = G' ++ [b]) ∧ LiveT [] G.length st) (fun r => nomatch r)
    (fun i s st hi h => by
      obtain ⟨⟨G', B, hp, hH⟩, h⟩ := h
      obtain ⟨q1, _⟩ := hP _ _ _ hp
      obtain ⟨G'', y1, y2⟩ := hyield i s G' hi hp
      obtain ⟨q2, _⟩ := hP _ _ _ y2
      have hprev : prevOf l (i + 1) = l[i] := by simp [prevOf, hi]
      generalize hpv : prevOf l i = pv at *
      have e0 : ∀ B, (G' ++ B)[G.length]? = B[0]? := fun B => by rw [← q1]; exact app_get0
      have e1 : ∀ B, (G' ++ B)[G.length + 1]? = B[1]? := fun B => by rw [← q1]; exact app_getk 1
      have u0 : ∀ B e, (G' ++ B).set G.length e = G' ++ B.set 0 e := fun B e => by rw [← q1]; exact app_set0 e
      have u1 : ∀ B e, (G' ++ B).set (G.length + 1) e = G' ++ B.set 1 e := fun B e => by rw [← q1]; exact app_setk e 1
      have t1 : ∀ B, (G' ++ B).take (G.length + 1) = G' ++ B.take 1 := fun B => by rw [← q1]; exact app_takek 1
      have d0 : ∀ B, (G' ++ B).drop G.length = B := fun B => by rw [← q1]; exact app_drop0
      have e0' : ∀ B, (G'' ++ B)[G.length]? = B[0]? := fun B => by rw [← q2]; exact app_get0
      have e1' : ∀ B, (G'' ++ B)[G.length + 1]? = B[1]? := fun B => by rw [← q2]; exact app_getk 1
      have u0' : ∀ B e, (G'' ++ B).set G.length e = G'' ++ B.set 0 e := fun B e => by rw [← q2]; exact app_set0 e
      obtain ⟨tm, H, b⟩ := st
      simp only [bodyOf, Go.Proofs.Try.f222, Option.getD_some, loopsOf, rangesOf, List.nil_append, List.append_nil, List.cons_append, List.getElem?_cons_zero, List.getElem?_cons_succ]
      simp only [go_sem] at h
      obtain ⟨g0, g1, g3, g7, g8, g9, rfl⟩ := h
      simp only at hH
      subst hH
      simp only [go_sem] at y1 e0 e1
      simp [go_sem, g0, g1, g3, g7, g8, g9, hi, e0, e1, u0, u1, t1, d0, e0', e1', u0', q1, q2, hkb, hy, y1, show i < 1000000000 by omega]
      exact ⟨G'', y2, _, by rw [hprev]⟩)
    (fun s st h => by
      obtain ⟨⟨G', B, hp, hH⟩, h⟩ := h
      obtain ⟨q1, _⟩ := hP _ _ _ hp
      have t1 : ∀ B, (G' ++ B).take (G.length + 1) = G' ++ B.take 1 := fun B => by rw [← q1]; exact app_takek 1
      have d0 : ∀ B, (G' ++ B).drop G.length = B := fun B => by rw [← q1]; exact app_drop0
      obtain ⟨tm, H, b⟩ := st
      simp only [bodyOf, Go.Proofs.Try.f222, Option.getD_some, loopsOf, rangesOf, List.nil_append, List.append_nil, List.cons_append, List.getElem?_cons_zero, List.getElem?_cons_succ]
      simp only [go_sem] at h
      obtain ⟨g0, g1, g3, g7, g8, g9, rfl⟩ := h
      simp only at hH
      subst hH
      simp [go_sem, g0, g1, g3, g7, g8, g9, t1, d0, hkb]
      exact hp)
    (fun r => nomatch r)
  rw [hs] at hR
  simp only [bodyOf, Go.Proofs.Try.f222, Option.getD_some, loopsOf, rangesOf, List.nil_append, List.append_nil, List.cons_append, List.getElem?_cons_zero, List.getElem?_cons_succ] at hR
  simp [go_sem] at hR
  have gE := getE hG hkb
  simp only [go_sem] at gE
  have hR0 := fun st (hh : st.H = G ++ [.box [.sc (.int .i64 0), .sc (.int .i64 0), .sc (.int .i64 0)]]) a b c d e f g => hR st G h0 [] hh a b c d e f g
  have hT : ∀ st : St, st.H = G ++ [.box [.sc (.int .i64 0), .sc (.int .i64 0), .sc (.int .i64 0)]] → st.tm.get 0 = .yl j → st.tm.get 1 = .bp kb 0 → st.tm.get 3 = .bp G.length 0 → st.tm.get 7 = zSps l → st.tm.get 8 = zI l.length → st.tm.get 9 = zI 0 → st.b = G.length →
      P l.length s1 ((R st).H.take G.length) := fun st hh a b c d e f g => by
    obtain ⟨_, ⟨G', p1, b', p2⟩, _⟩ := hR0 st hh a b c d e f g
    rw [p2, ← (hP _ _ _ p1).1, app_take0]
    exact p1
  simp only [go_sem] at hT
  obtain ⟨G', h1, h2⟩ : ∃ G', outC ev.T [] w222.adopt G.length (dn ev (callS ev fs) Y w222 (bodyOf Go.Proofs.Try.f222) { tm := Slots.init 0 [.yl j, .bp kb 0], H := G, b := G.length }) = some (.ret (.tup []), G') ∧ P l.length s1 G' := by
    simp only [bodyOf, Go.Proofs.Try.f222, Option.getD_some]
    simp [go_sem, hkb, gE, hR0, hT]
  exact ⟨G', callS_by f222_eq rfl h1, h2⟩
end Go.Proofs.Ytlphdiccffnckaa

/- Layer 13: lineages that are checked, cut. -/
namespace Go.Proofs.Ytlphdiccffnckaa
open Go Go.Abs
theorem f84_eq : fs 84 = some (mkFn w84 Go.Proofs.Try.f84 (bodyOf Go.Proofs.Try.f84)) := by kernel_rfl

theorem prev_good : ∀ (l : List Sp) (p : Sp), spGood p → spOk p l = true → ∀ i (hi : i < l.length), spGood (if i = 0 then p else (l[i - 1]?).getD p) ∧ spNext (if i = 0 then p else (l[i - 1]?).getD p) l[i]
  | [], _, _, _, i, hi => by simp at hi
  | x :: l, p, hp, ho, i, hi => by
    simp only [spOk] at ho
    by_cases hn : spNext p x
    · simp only [hn, if_true] at ho
      have hx := spNext_good hp hn
      cases i with
      | zero => exact ⟨hp, hn⟩
      | succ i =>
        have := prev_good l x hx ho i (by simpa using hi)
        simp only [Nat.add_one_ne_zero, if_false, Nat.add_sub_cancel, List.getElem_cons_succ]
        cases i with
        | zero => simpa using this
        | succ i =>
          simp only [Nat.add_one_ne_zero, if_false, Nat.add_sub_cancel] at this
          have hi' : i < l.length := by simp at hi; omega
          simp only [List.getElem?_cons_succ, List.getElem?_eq_getElem hi', Option.getD_some] at this ⊢
          exact this
    · simp [hn] at ho
theorem prevOf_ok {l : List Sp} (ho : spOk sp0 l = true) {i : Nat} (hi : i < l.length) : spGood (prevOf l i) ∧ spNext (prevOf l i) l[i] := prev_good l sp0 sp0_good ho i hi

theorem f174_round (l : List Sp) (p x : Sp) (hp : spGood p) (hn : spNext p x) (tm : Slots) (Y : List YF) :
    roundOf [8, 9] tm 2 (dn ev (callS ev fs) Y w174 ((rangesOf (bodyOf Go.Proofs.Try.f174))[0]?.getD (.skip, .skip)).1) (dn ev (callS ev fs) Y w174 ((rangesOf (bodyOf Go.Proofs.Try.f174))[0]?.getD (.skip, .skip)).2) [.agg (spRow p), .agg (spRow x)]
      ([.box [zI 0], .box [zSps l], .loop .ready none] ++ [.box (spRow p), .box (spRow x)]) = some (.ret (.sc (.bool true)), [.box [zI 0], .box [zSps l], .loop .ready none] ++ [.box (spRow p), .box (spRow x)]) := by
  have h213 := fun lp => f213_spec [⟨218, [.bp 6 0], 2, true⟩, ⟨219, [.bp 6 0], 3, true⟩, ⟨220, [.bp 6 0, .bp 5 0], 15, true⟩, ⟨221, [.bp 6 0, .bp 5 0], 13, true⟩] 7 0
    [.box [zI 0], .box [zSps l], .loop lp none, .box (spRow p), .box (spRow x), .box (spRow p), .box (spRow x), .own 0 2 [[.fn 218 [.bp 6 0], zI 2], [.fn 219 [.bp 6 0], zI 3], [.fn 220 [.bp 6 0, .bp 5 0], zI 15], [.fn 221 [.bp 6 0, .bp 5 0], zI 13]]]
    rfl (by simp) Y (by intro r hr; simp at hr; rcases hr with rfl | rfl | rfl | rfl <;> rfl) rfl (by
      intro r hr B
      have hgood := hp
      unfold spNext at hn
      unfold spGood at hgood
      simp only [List.mem_cons, List.not_mem_nil, or_false] at hr
      rcases hr with rfl | rfl | rfl | rfl
      · exact f218_spec x 6 _ rfl (by omega) Y
      · exact f219_spec x 6 _ rfl (by omega) Y
      · exact f220_spec x p 6 5 _ rfl rfl hp (by omega) Y
      · exact f221_spec x p 6 5 _ rfl rfl (by omega) Y)
  simp only [bodyOf, Go.Proofs.Try.f174, Option.getD_some, rangesOf, List.nil_append, List.append_nil, List.cons_append, List.getElem?_cons_zero]
  simp only [go_sem, List.length_cons, List.length_nil] at h213
  simp [roundOf, roundEnd, Slots.putAll, Slots.put, refCells, refCell, go_sem, slLit, Go.Abs.chunks, h213]

theorem fold_unit (l : List Sp) : ∀ (i : Nat), foldE (ρ := Empty) (fun i s x => .inl ((fun _ (_ : Unit) (_ : Sp) => ()) i s x)) i () l = .inl () := by
  induction l with
  | nil => intro i; rfl
  | cons x l ih => intro i; exact ih (i + 1)
theorem f174_range (l : List Sp) (hl : l.length < 1000000000) (ho : spOk sp0 l = true) (st : St) (hH : st.H = [.box [zI 0], .box [zSps l]]) (Y : List YF) :
    rangeFn (callS ev fs) Y (.fn 222 [.bp 1 0]) [8, 9] (dn ev (callS ev fs) Y w174 ((rangesOf (bodyOf Go.Proofs.Try.f174))[0]?.getD (.skip, .skip)).1) (dn ev (callS ev fs) Y w174 ((rangesOf (bodyOf Go.Proofs.Try.f174))[0]?.getD (.skip, .skip)).2) st = some (.normal, st) := by
  obtain ⟨tm, H, b⟩ := st
  simp only at hH
  subst hH
  obtain ⟨G', h1, h2⟩ := f222_spec (fun _ (_ : Unit) _ => ()) (fun _ _ G' => G' = [.box [zI 0], .box [zSps l], .loop .ready none]) l 1 Y.length
    (roundOf [8, 9] tm 2 (dn ev (callS ev fs) Y w174 ((rangesOf (bodyOf Go.Proofs.Try.f174))[0]?.getD (.skip, .skip)).1) (dn ev (callS ev fs) Y w174 ((rangesOf (bodyOf Go.Proofs.Try.f174))[0]?.getD (.skip, .skip)).2))
    (Y ++ [roundOf [8, 9] tm 2 (dn ev (callS ev fs) Y w174 ((rangesOf (bodyOf Go.Proofs.Try.f174))[0]?.getD (.skip, .skip)).1) (dn ev (callS ev fs) Y w174 ((rangesOf (bodyOf Go.Proofs.Try.f174))[0]?.getD (.skip, .skip)).2)])
    () () [.box [zI 0], .box [zSps l], .loop .ready none] hl (by simp) (by simp) (fun i s G' h => by rw [h]; exact ⟨rfl, rfl⟩) rfl
    (fun i s G' hi h => by
      subst h
      obtain ⟨p1, p2⟩ := prevOf_ok ho hi
      exact ⟨_, f174_round l _ _ p1 p2 tm Y, rfl⟩) rfl (fold_unit l 0)
  subst h2
  unfold rangeFn
  simp only
  have he : ([.box [zI 0], .box [zSps l]] : List Ent) ++ [.loop .ready none] = [.box [zI 0], .box [zSps l], .loop .ready none] := rfl
  have hlen : ([.box [zI 0], .box [zSps l]] : List Ent).length = 2 := rfl
  rw [he, hlen, h1]
  rfl

/-- A lineage that is nil where it is empty. -/
def zLin (l : List Sp) : AV := if l = [] then .sc (.slice none 0 0) else zSps l
theorem f174_spec (l : List Sp) (hl : l.length < 1000000000) (ho : spOk sp0 l = true) (Y : List YF) : callS ev fs 174 [zSps l] [] Y = some (.ret (zI 0), []) := by
  refine callS_by f174_eq rfl ?_
  simp only [bodyOf, Go.Proofs.Try.f174, Option.getD_some]
  have h1 := fun H => f175_spec l H Y
  have h2 := fun st a => f174_range l hl ho st a Y
  simp only [bodyOf, Go.Proofs.Try.f174, Option.getD_some, rangesOf, List.nil_append, List.append_nil, List.cons_append, List.getElem?_cons_zero, go_sem] at h1 h2
  simp [go_sem, h1, h2]
theorem f174_lin (l : List Sp) (hl : l.length < 1000000000) (ho : spOk sp0 l = true) (Y : List YF) : callS ev fs 174 [zLin l] [] Y = some (.ret (zI 0), []) := by
  unfold zLin
  split
  · skip
    refine callS_by f174_eq rfl ?_
    simp only [bodyOf, Go.Proofs.Try.f174, Option.getD_some]
    have h1 := fun H => f175_spec [] H Y
    have h2 := fun st a => f174_range [] (by simp) rfl st a Y
    simp only [bodyOf, Go.Proofs.Try.f174, Option.getD_some, rangesOf, List.nil_append, List.append_nil, List.cons_append, List.getElem?_cons_zero, go_sem, List.map_nil] at h1 h2
    simp [go_sem, h1, h2]
  · exact f174_spec l hl ho Y

/-- The lineage up to a cycle. -/
def truncF (c : Int) (_ : Nat) (s : List Sp) (x : Sp) : List Sp := if x.f ≤ c then s ++ [⟨x.e, x.f, minI x.t c⟩] else s
def trunc (c : Int) : List Sp → List Sp
  | [] => []
  | x :: l => if x.f ≤ c then ⟨x.e, x.f, minI x.t c⟩ :: trunc c l else trunc c l
theorem trunc_fold (c : Int) : ∀ (l : List Sp) (i : Nat) (s : List Sp), foldE (ρ := Empty) (fun i s x => .inl (truncF c i s x)) i s l = .inl (s ++ trunc c l)
  | [], _, s => by simp [foldE, trunc]
  | x :: l, i, s => by
    simp only [foldE, trunc]
    rw [trunc_fold c l]
    unfold truncF
    split <;> simp
theorem trunc_len (c : Int) : ∀ (l : List Sp), (trunc c l).length ≤ l.length
  | [] => Nat.le_refl _
  | x :: l => by
    have := trunc_len c l
    simp only [trunc]
    split
    · simp; omega
    · simp; omega
def spRows (l : List Sp) : List (List AV) := l.map fun x => [.sc (.int .i64 x.e), .sc (.int .i64 x.f), .sc (.int .i64 x.t)]
theorem spRows_len (l : List Sp) : (spRows l).length = l.length := by simp [spRows]
theorem spRows_app (l : List Sp) (x : Sp) : spRows (l ++ [x]) = spRows l ++ [spRow x] := by simp [spRows, spRow]
theorem spRows_pure (l : List Sp) : AV.pureLL (spRows l) = true := pureLL_map (fun s => rfl) l
def entsT (c : Int) (l s : List Sp) (lp : LoopState) : List Ent := [.box [zI c], .box [.os 2 0 s.length s.length], .own s.length 3 (spRows s), .box [zSps l], .loop lp none]

theorem f84_round (c : Int) (l s : List Sp) (p x : Sp) (hs : s.length < 100000000) (tm : Slots) (h3 : tm.get 3 = .bp 0 0) (h5 : tm.get 5 = .bp 1 0) (i : Nat) (Y : List YF) :
    roundOf [13, 14] tm 4 (dn ev (callS ev fs) Y w84 ((rangesOf (bodyOf Go.Proofs.Try.f84))[0]?.getD (.skip, .skip)).1) (dn ev (callS ev fs) Y w84 ((rangesOf (bodyOf Go.Proofs.Try.f84))[0]?.getD (.skip, .skip)).2) [.agg (spRow p), .agg (spRow x)]
      (entsT c l s .ready ++ [.box (spRow p), .box (spRow x)]) = some (.ret (.sc (.bool true)), entsT c l (truncF c i s x) .ready ++ [.box (spRow p), .box (spRow x)]) := by
  simp only [bodyOf, Go.Proofs.Try.f84, Option.getD_some, rangesOf, List.nil_append, List.append_nil, List.cons_append, List.getElem?_cons_zero]
  have hrm : room (s.length + 1) 24 = true := room_ok (by omega) (by omega) (by omega)
  have htk : (spRows s).take s.length = spRows s := List.take_of_length_le (by rw [spRows_len]; exact Nat.le_refl _)
  have hpl := spRows_len s
  by_cases hc : x.f ≤ c
  · simp [roundOf, roundEnd, entsT, Slots.putAll, Slots.put, refCells, refCell, go_sem, h3, h5, hrm, htk, hpl, hc, truncF, spRows_app, minI]
  · simp [roundOf, roundEnd, entsT, Slots.putAll, Slots.put, refCells, refCell, go_sem, h3, h5, hrm, htk, hpl, hc, truncF]

theorem f84_range (c : Int) (l : List Sp) (hl : l.length < 100000000) (st : St) (h3 : st.tm.get 3 = .bp 0 0) (h5 : st.tm.get 5 = .bp 1 0) (hH : st.H = [.box [zI c], .box [.os 2 0 0 0], .own 0 3 [], .box [zSps l]]) (Y : List YF) :
    rangeFn (callS ev fs) Y (.fn 222 [.bp 3 0]) [13, 14] (dn ev (callS ev fs) Y w84 ((rangesOf (bodyOf Go.Proofs.Try.f84))[0]?.getD (.skip, .skip)).1) (dn ev (callS ev fs) Y w84 ((rangesOf (bodyOf Go.Proofs.Try.f84))[0]?.getD (.skip, .skip)).2) st =
      some (.normal, { st with H := (entsT c l (trunc c l) .ready).take 4 }) := by
  obtain ⟨tm, H, b⟩ := st
  simp only at h3 h5 hH
  subst hH
  have hf := trunc_fold c l 0 []
  simp only [List.nil_append] at hf
  obtain ⟨G', q1, q2⟩ := f222_spec (truncF c) (fun i s G' => G' = entsT c l s .ready ∧ s.length ≤ i ∧ i ≤ l.length) l 3 Y.length
    (roundOf [13, 14] tm 4 (dn ev (callS ev fs) Y w84 ((rangesOf (bodyOf Go.Proofs.Try.f84))[0]?.getD (.skip, .skip)).1) (dn ev (callS ev fs) Y w84 ((rangesOf (bodyOf Go.Proofs.Try.f84))[0]?.getD (.skip, .skip)).2))
    (Y ++ [roundOf [13, 14] tm 4 (dn ev (callS ev fs) Y w84 ((rangesOf (bodyOf Go.Proofs.Try.f84))[0]?.getD (.skip, .skip)).1) (dn ev (callS ev fs) Y w84 ((rangesOf (bodyOf Go.Proofs.Try.f84))[0]?.getD (.skip, .skip)).2)])
    [] (trunc c l) (entsT c l [] .ready) (by omega) (by simp) (by simp [entsT]) (fun i s G' h => by rw [h.1]; exact ⟨rfl, rfl⟩) rfl
    (fun i s G' hi h => by
      obtain ⟨rfl, g1, g2⟩ := h
      refine ⟨_, f84_round c l s _ _ (by omega) tm h3 h5 i Y, rfl, ?_, by omega⟩
      unfold truncF
      split
      · simp; omega
      · omega) ⟨rfl, by simp, by omega⟩ hf
  obtain ⟨rfl, _⟩ := q2
  unfold rangeFn
  simp only
  have he : ([.box [zI c], .box [.os 2 0 0 0], .own 0 3 [], .box [zSps l]] : List Ent) ++ [.loop .ready none] = entsT c l [] .ready := rfl
  have hlen : ([.box [zI c], .box [.os 2 0 0 0], .own 0 3 [], .box [zSps l]] : List Ent).length = 4 := rfl
  rw [he, hlen, q1]
  rfl
theorem f84_spec (l : List Sp) (c : Int) (hl : l.length < 100000000) (ho : spOk sp0 l = true) (Y : List YF) : callS ev fs 84 [zSps l, zI c] [] Y = some (.ret (zSps (trunc c l)), []) := by
  refine callS_by f84_eq rfl ?_
  simp only [bodyOf, Go.Proofs.Try.f84, Option.getD_some]
  have h174 := f174_spec l (by omega) ho []
  have h1 := fun H => f175_spec l H Y
  have h2 := fun st a b d => f84_range c l hl st a b d Y
  simp only [bodyOf, Go.Proofs.Try.f84, Option.getD_some, rangesOf, List.nil_append, List.append_nil, List.cons_append, List.getElem?_cons_zero, go_sem] at h1 h2 h174
  have htk : (spRows (trunc c l)).take (trunc c l).length = spRows (trunc c l) := List.take_of_length_le (by rw [spRows_len]; exact Nat.le_refl _)
  have hpp := spRows_pure (trunc c l)
  generalize trunc c l = d at *
  simp only [spRows] at htk hpp
  simp [go_sem, freeze_os, h174, h1, h2, entsT, spRows, htk, hpp]
end Go.Proofs.Ytlphdiccffnckaa

