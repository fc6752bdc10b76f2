/- Texts put together: Ioq, Ior, Ios, Iot. -/
import Derived.Test.YtlphdiccffnckaaPap

/- Layer 54: Resolve. -/
namespace Go.Proofs.Ytlphdiccffnckaa
open Go Go.Abs
theorem f67_eq : fs 67 = some (mkFn w67 Go.Proofs.Try.f67 (bodyOf Go.Proofs.Try.f67)) := by kernel_rfl
theorem f68_eq : fs 68 = some (mkFn w68 Go.Proofs.Try.f68 (bodyOf Go.Proofs.Try.f68)) := by kernel_rfl

def maxI (x y : Int) : Int := if y > x then y else x
def loses (best : Site) (w : Int) (i : Nat) (s : Site) : Bool := decide (¬ (i : Int) = w) && (decide (s.role = 1) || mApart s best)
def fenced (best s : Site) : Site := { s with role := 5, src := -1, ep := maxI s.ep best.ep }
def resF (best : Site) (w : Int) (i : Nat) (r : List Site × List Int) (s : Site) : (List Site × List Int) ⊕ Empty :=
  .inl (if loses best w i s = true then (r.1 ++ [fenced best s], r.2 ++ [(i : Int)]) else (r.1 ++ [s], r.2))
def resOut (best : Site) (w : Int) (l : List Site) : List Site × List Int := match foldE (resF best w) 0 ([], []) l with
  | .inl r => r
theorem resOut_fold (best : Site) (w : Int) (l : List Site) : foldE (resF best w) 0 ([], []) l = .inl (resOut best w l) := by
  unfold resOut
  cases foldE (resF best w) 0 ([], []) l with
  | inl s => rfl
  | inr r => exact nomatch r
/-- What Resolve returns, or its error. -/
def mRes (l : List Site) (w : Int) : (List Site × List Int) ⊕ Int :=
  if mSites l = 0 then
    if 0 ≤ w then match l[w.toNat]? with
      | some b => if b.role = 1 ∨ b.role = 2 ∨ b.role = 3 then .inl (resOut b w l) else .inr 18
      | none => .inr 7
    else .inr 7
  else .inr (mSites l)
def zRes : (List Site × List Int) ⊕ Int → AV
  | .inl r => .tup [zSites r.1, zInts r.2, zI 0]
  | .inr e => .tup [.sc (.slice none 0 0), .sc (.slice none 0 0), zI e]
theorem res_len (best : Site) (w : Int) : ∀ (l : List Site) (i : Nat) (r r' : List Site × List Int), foldE (resF best w) i r l = .inl r' → r'.1.length = r.1.length + l.length ∧ r'.2.length ≤ r.2.length + l.length
  | [], i, r, r', h => by simp only [foldE, Sum.inl.injEq] at h; subst h; simp
  | s :: l, i, r, r', h => by
    simp only [foldE, resF] at h
    have := res_len best w l _ _ _ h
    simp only [List.length_cons]
    split at this <;> simp at this <;> omega

def siteRows (l : List Site) : List (List AV) := l.map fun s => [.sc (.int .i64 s.num), .sc (.int .i64 s.role), .sc (.int .i64 s.ep), .sc (.int .i64 s.app), .sl false 3 (s.lin.map fun x => [.sc (.int .i64 x.e), .sc (.int .i64 x.f), .sc (.int .i64 x.t)]), .sc (.int .i64 s.src), .sc (.bool s.al), .sc (.bool s.co)]
theorem siteRows_len (l : List Site) : (siteRows l).length = l.length := by simp [siteRows]
theorem siteRows_app (l : List Site) (s : Site) : siteRows (l ++ [s]) = siteRows l ++ [siteRow s] := by simp [siteRows, siteRow]
theorem siteRows_under (n : Nat) (l : List Site) : AV.underLL n (siteRows l) = true := underLL_map (fun s => rfl) l
theorem siteRows_pure (l : List Site) : AV.pureLL (siteRows l) = true := pureLL_map (fun s => rfl) l
theorem intRows_under (n : Nat) (l : List Int) : AV.underLL n (l.map fun n => [AV.sc (.int .i64 n)]) = true := underLL_map (fun s => rfl) l

@[go_sem] theorem ent_under_dead {n : Nat} : Ent.under n .dead = true := rfl
theorem f67_loop (best : Site) (w : Int) (l : List Site) (hb : best.lin.length < 1000000000) (hl : siteLen l) (Y : List YF) :
    ∃ R : St → St, ∀ st, Live [(0, zSites l), (1, zI w), (8, .fp (siteRow best)), (9, .os 1 0 0 0), (10, .os 2 0 0 0), (43, zSites l), (44, zI l.length), (45, zI 0)] [.dead, .own 0 8 [], .own 0 1 []] 0 st →
      loopC ev (callS ev fs) Y w67 ((loopsOf (bodyOf Go.Proofs.Try.f67))[0]?.getD .skip) st = some (.exit 0, R st) ∧
      Live [(9, .os 1 0 l.length l.length), (10, .os 2 0 (resOut best w l).2.length (resOut best w l).2.length)] [.dead, .own l.length 8 (siteRows (resOut best w l).1), .own (resOut best w l).2.length 1 ((resOut best w l).2.map fun n => [.sc (.int .i64 n)])] 0 (R st) := by
  obtain ⟨R, hR⟩ := fold_loop (E := ev) (C := callS ev fs) (Y := Y) (w := w67) (a := (loopsOf (bodyOf Go.Proofs.Try.f67))[0]?.getD .skip) (b := 0) 
    l (resF best w) ([], []) (ex := fun (r : Empty) => nomatch r)
    (fun i r st => (r.1.length = i ∧ r.2.length ≤ i ∧ ∃ B, st.H = .dead :: .own i 8 (siteRows r.1) :: .own r.2.length 1 (r.2.map fun n => [.sc (.int .i64 n)]) :: B) ∧ LiveT [(0, zSites l), (1, zI w), (8, .fp (siteRow best)), (9, .os 1 0 i i), (10, .os 2 0 r.2.length r.2.length), (43, zSites l), (44, zI l.length), (45, zI i)] 0 st)
    (fun r st => r.1.length = l.length ∧ Live [(9, .os 1 0 l.length l.length), (10, .os 2 0 r.2.length r.2.length)] [.dead, .own l.length 8 (siteRows r.1), .own r.2.length 1 (r.2.map fun n => [.sc (.int .i64 n)])] 0 st) (fun r => nomatch r)
    (fun i r st hi h => by
      obtain ⟨⟨hr1, hr2, B, hH⟩, h⟩ := h
      obtain ⟨out, fen⟩ := r
      simp only at hr1 hr2 hH h ⊢
      have hs := hl.2 _ (List.getElem_mem hi)
      have hln := hl.1
      have h157 := f157_spec l[i] best hs hb []
      have hcl := clone_sps l[i].lin hs
      have hu := siteRows_under 3 out
      have hu2 := intRows_under 3 fen
      have htk : (siteRows out).take i = siteRows out := List.take_of_length_le (by rw [siteRows_len]; omega)
      have hsl : (siteRows out).length = i := by rw [siteRows_len]; exact hr1
      have hrm : room (i + 1) 72 = true := room_ok (by omega) (by omega) (by omega)
      have hrm2 : room (fen.length + 1) 8 = true := room_ok (by omega) (by omega) (by omega)
      obtain ⟨tm, H, b⟩ := st
      simp only [bodyOf, Go.Proofs.Try.f67, Option.getD_some, loopsOf, rangesOf, List.nil_append, List.append_nil, List.cons_append, List.getElem?_cons_zero, List.getElem?_cons_succ]
      simp only [go_sem] at h
      obtain ⟨g0, g1, g8, g9, g10, g43, g44, g45, rfl⟩ := h
      simp only at hH
      subst hH
      simp only [go_sem] at h157
      by_cases c1 : (i : Int) = w
      · subst c1
        have hn : loses best i i l[i] = false := by simp [loses]
        simp only [resF, hn]
        simp [go_sem, g0, g1, g8, g9, g10, g43, g44, g45, hi, hu, hu2, hcl, hrm, htk, hsl, hr1, hr2, show fen.length ≤ i + 1 by omega, siteRows_app, show i < 1000000000 by omega]
      by_cases c2 : l[i].role = 1
      · have hn : loses best w i l[i] = true := by simp [loses, c1, c2]
        simp only [resF, hn]
        simp [go_sem, g0, g1, g8, g9, g10, g43, g44, g45, hi, hu, hu2, hcl, c1, c2, hrm, hrm2, htk, hsl, hr1, hr2, show fen.length ≤ i + 1 by omega, siteRows_app, fenced, maxI, show i < 1000000000 by omega]
      cases c3 : mApart l[i] best with
      | true =>
        have hn : loses best w i l[i] = true := by simp [loses, c1, c3]
        rw [c3] at h157
        simp only [resF, hn]
        simp [go_sem, g0, g1, g8, g9, g10, g43, g44, g45, hi, hu, hu2, hcl, h157, c1, c2, hrm, hrm2, htk, hsl, hr1, hr2, show fen.length ≤ i + 1 by omega, siteRows_app, fenced, maxI, show i < 1000000000 by omega]
      | false =>
        have hn : loses best w i l[i] = false := by simp [loses, c1, c2, c3]
        rw [c3] at h157
        simp only [resF, hn]
        simp [go_sem, g0, g1, g8, g9, g10, g43, g44, g45, hi, hu, hu2, hcl, h157, c1, c2, hrm, htk, hsl, hr1, hr2, show fen.length ≤ i + 1 by omega, siteRows_app, show i < 1000000000 by omega])
    (fun r st h => by
      obtain ⟨⟨hr1, hr2, B, hH⟩, h⟩ := h
      obtain ⟨out, fen⟩ := r
      simp only at hr1 hr2 hH h ⊢
      have hu := siteRows_under 3 out
      have hu2 := intRows_under 3 fen
      obtain ⟨tm, H, b⟩ := st
      simp only [bodyOf, Go.Proofs.Try.f67, Option.getD_some, loopsOf, rangesOf, List.nil_append, List.append_nil, List.cons_append, List.getElem?_cons_zero, List.getElem?_cons_succ]
      simp only [go_sem] at h
      obtain ⟨g0, g1, g8, g9, g10, g43, g44, g45, rfl⟩ := h
      simp only at hH
      subst hH
      simp [go_sem, g0, g1, g8, g9, g10, g43, g44, g45, hu, hu2, hr1])
    (fun r => nomatch r)
  refine ⟨R, fun st h => ?_⟩
  rw [resOut_fold] at hR
  simp only [go_sem] at h
  obtain ⟨g0, g1, g8, g9, g10, g43, g44, g45, hH, hbb⟩ := h
  have := hR st ⟨⟨rfl, Nat.zero_le _, [], hH⟩, by simp only [go_sem]; exact ⟨g0, g1, g8, g9, g10, g43, g44, g45, hbb⟩⟩
  exact ⟨this.1, this.2.2⟩
end Go.Proofs.Ytlphdiccffnckaa

/- Layer 54: Resolve of the reference. -/
namespace Go.Proofs.Ytlphdiccffnckaa
open Go Go.Abs

@[go_sem] theorem ghost_frz {s : Nat} {st : St} : ghost (.frz s) st = match st.tm.get s with
    | .bp k o =>
      if st.b ≤ k then
        match st.H[k]? with
        | some (.box cs) => if AV.pureL cs = true then some { st with tm := (s, .fp (cs.drop o)) :: st.tm, H := st.H.set k .dead } else none
        | _ => none
      else none
    | _ => none := rfl
theorem f68_loop (best : Site) (w : Int) (l : List Site) (hb : best.lin.length < 1000000000) (hl : siteLen l) (Y : List YF) :
    ∃ R : St → St, ∀ st, Live [(0, zSites l), (1, zI w), (8, .fp (siteRow best)), (9, .os 1 0 0 0), (10, .os 2 0 0 0), (11, zI 0)] [.dead, .own 0 8 [], .own 0 1 []] 0 st →
      loopC ev (callS ev fs) Y w68 ((loopsOf (bodyOf Go.Proofs.Try.f68))[0]?.getD .skip) st = some (.exit 0, R st) ∧
      Live [(9, .os 1 0 l.length l.length), (10, .os 2 0 (resOut best w l).2.length (resOut best w l).2.length)] [.dead, .own l.length 8 (siteRows (resOut best w l).1), .own (resOut best w l).2.length 1 ((resOut best w l).2.map fun n => [.sc (.int .i64 n)])] 0 (R st) := by
  obtain ⟨R, hR⟩ := fold_loop (E := ev) (C := callS ev fs) (Y := Y) (w := w68) (a := (loopsOf (bodyOf Go.Proofs.Try.f68))[0]?.getD .skip) (b := 0) 
    l (resF best w) ([], []) (ex := fun (r : Empty) => nomatch r)
    (fun i r st => (r.1.length = i ∧ r.2.length ≤ i ∧ ∃ B, st.H = .dead :: .own i 8 (siteRows r.1) :: .own r.2.length 1 (r.2.map fun n => [.sc (.int .i64 n)]) :: B) ∧ LiveT [(0, zSites l), (1, zI w), (8, .fp (siteRow best)), (9, .os 1 0 i i), (10, .os 2 0 r.2.length r.2.length), (11, zI i)] 0 st)
    (fun r st => r.1.length = l.length ∧ Live [(9, .os 1 0 l.length l.length), (10, .os 2 0 r.2.length r.2.length)] [.dead, .own l.length 8 (siteRows r.1), .own r.2.length 1 (r.2.map fun n => [.sc (.int .i64 n)])] 0 st) (fun r => nomatch r)
    (fun i r st hi h => by
      obtain ⟨⟨hr1, hr2, B, hH⟩, h⟩ := h
      obtain ⟨out, fen⟩ := r
      simp only at hr1 hr2 hH h ⊢
      have hs := hl.2 _ (List.getElem_mem hi)
      have hln := hl.1
      have h159 := f159_spec l[i] best hs hb []
      have hcl := f160_spec l[i] hs []
      have hu := siteRows_under 3 out
      have hu2 := intRows_under 3 fen
      have htk : (siteRows out).take i = siteRows out := List.take_of_length_le (by rw [siteRows_len]; omega)
      have hsl : (siteRows out).length = i := by rw [siteRows_len]; exact hr1
      have hrm : room (i + 1) 72 = true := room_ok (by omega) (by omega) (by omega)
      have hrm2 : room (fen.length + 1) 8 = true := room_ok (by omega) (by omega) (by omega)
      obtain ⟨tm, H, b⟩ := st
      simp only [bodyOf, Go.Proofs.Try.f68, Option.getD_some, loopsOf, rangesOf, List.nil_append, List.append_nil, List.cons_append, List.getElem?_cons_zero, List.getElem?_cons_succ]
      simp only [go_sem] at h
      obtain ⟨g0, g1, g8, g9, g10, g11, rfl⟩ := h
      simp only at hH
      subst hH
      simp only [go_sem] at h159 hcl
      by_cases c1 : (i : Int) = w
      · subst c1
        have hn : loses best i i l[i] = false := by simp [loses]
        simp only [resF, hn]
        simp [go_sem, g0, g1, g8, g9, g10, g11, hi, hu, hu2, hcl, hrm, htk, hsl, hr1, hr2, show fen.length ≤ i + 1 by omega, siteRows_app, show i < 1000000000 by omega]
      by_cases c2 : l[i].role = 1
      · have hn : loses best w i l[i] = true := by simp [loses, c1, c2]
        simp only [c2] at hcl
        simp only [resF, hn]
        simp [go_sem, g0, g1, g8, g9, g10, g11, hi, hu, hu2, hcl, c1, c2, hrm, hrm2, htk, hsl, hr1, hr2, show fen.length ≤ i + 1 by omega, siteRows_app, fenced, maxI, show i < 1000000000 by omega]
      cases c3 : mApart l[i] best with
      | true =>
        have hn : loses best w i l[i] = true := by simp [loses, c1, c3]
        rw [c3] at h159
        simp only [resF, hn]
        simp [go_sem, g0, g1, g8, g9, g10, g11, hi, hu, hu2, hcl, h159, c1, c2, hrm, hrm2, htk, hsl, hr1, hr2, show fen.length ≤ i + 1 by omega, siteRows_app, fenced, maxI, show i < 1000000000 by omega]
      | false =>
        have hn : loses best w i l[i] = false := by simp [loses, c1, c2, c3]
        rw [c3] at h159
        simp only [resF, hn]
        simp [go_sem, g0, g1, g8, g9, g10, g11, hi, hu, hu2, hcl, h159, c1, c2, hrm, htk, hsl, hr1, hr2, show fen.length ≤ i + 1 by omega, siteRows_app, show i < 1000000000 by omega])
    (fun r st h => by
      obtain ⟨⟨hr1, hr2, B, hH⟩, h⟩ := h
      obtain ⟨out, fen⟩ := r
      simp only at hr1 hr2 hH h ⊢
      have hu := siteRows_under 3 out
      have hu2 := intRows_under 3 fen
      obtain ⟨tm, H, b⟩ := st
      simp only [bodyOf, Go.Proofs.Try.f68, Option.getD_some, loopsOf, rangesOf, List.nil_append, List.append_nil, List.cons_append, List.getElem?_cons_zero, List.getElem?_cons_succ]
      simp only [go_sem] at h
      obtain ⟨g0, g1, g8, g9, g10, g11, rfl⟩ := h
      simp only at hH
      subst hH
      simp [go_sem, g0, g1, g8, g9, g10, g11, hu, hu2, hr1])
    (fun r => nomatch r)
  refine ⟨R, fun st h => ?_⟩
  rw [resOut_fold] at hR
  simp only [go_sem] at h
  obtain ⟨g0, g1, g8, g9, g10, g11, hH, hbb⟩ := h
  have := hR st ⟨⟨rfl, Nat.zero_le _, [], hH⟩, by simp only [go_sem]; exact ⟨g0, g1, g8, g9, g10, g11, hbb⟩⟩
  exact ⟨this.1, this.2.2⟩

theorem f67_spec (l : List Site) (w : Int) (hl : siteLen l) (Y : List YF) : callS ev fs 67 [zSites l, zI w] [] Y = some (.ret (zRes (mRes l w)), []) := by
  refine callS_by f67_eq rfl ?_
  simp only [bodyOf, Go.Proofs.Try.f67, Option.getD_some]
  have h155 := f155_spec l hl []
  have hll := hl.1
  simp only [go_sem] at h155
  by_cases c0 : ¬ mSites l = 0
  · simp [go_sem, h155, c0, mRes, zRes]
  replace c0 := Decidable.not_not.1 c0
  by_cases c1 : w < 0
  · simp [go_sem, h155, c0, c1, mRes, zRes, show ¬ 0 ≤ w by omega]
  by_cases c2 : (l.length : Int) ≤ w
  · simp [go_sem, h155, c0, c1, c2, mRes, zRes, show 0 ≤ w by omega, show l[w.toNat]? = none from List.getElem?_eq_none (by omega)]
  obtain ⟨n, rfl⟩ : ∃ n : Nat, w = n := ⟨w.toNat, by omega⟩
  have hn : n < l.length := by omega
  have hb := hl.2 _ (List.getElem_mem hn)
  obtain ⟨R, hR⟩ := f67_loop l[n] n l hb hl Y
  have hm : mRes l n = if l[n].role = 1 ∨ l[n].role = 2 ∨ l[n].role = 3 then .inl (resOut l[n] n l) else .inr 18 := by simp [mRes, c0, hn]
  rw [hm]
  obtain ⟨e1, e2⟩ := res_len l[n] n l 0 ([], []) _ (resOut_fold l[n] n l)
  generalize hbest : l[n] = best at *
  generalize resOut best n l = ro at *
  obtain ⟨out, fen⟩ := ro
  simp only [List.length_nil, Nat.zero_add] at e1 e2
  simp only [bodyOf, Go.Proofs.Try.f67, Option.getD_some, loopsOf, rangesOf, List.nil_append, List.append_nil, List.cons_append, List.getElem?_cons_zero, List.getElem?_cons_succ] at hR
  simp only [go_sem, and_imp] at hR
  have htk : (siteRows out).take l.length = siteRows out := List.take_of_length_le (by rw [siteRows_len]; omega)
  have hpp := siteRows_pure out
  have hle : l.length ≤ out.length := by omega
  simp only [siteRows] at htk hpp
  by_cases r1 : best.role = 1
  · simp [go_sem, h155, c0, c1, hn, hbest, r1, hR, freeze_os, htk, hpp, hle, zRes, siteRows, show ¬ l.length ≤ n by omega, show n < 1000000000 by omega]
  by_cases r2 : best.role = 2
  · simp [go_sem, h155, c0, c1, hn, hbest, r2, hR, freeze_os, htk, hpp, hle, zRes, siteRows, show ¬ l.length ≤ n by omega, show n < 1000000000 by omega]
  by_cases r3 : best.role = 3
  · simp [go_sem, h155, c0, c1, hn, hbest, r3, hR, freeze_os, htk, hpp, hle, zRes, siteRows, show ¬ l.length ≤ n by omega, show n < 1000000000 by omega]
  simp [go_sem, h155, c0, c1, hn, hbest, r1, r2, r3, zRes, show ¬ l.length ≤ n by omega, show n < 1000000000 by omega]

theorem f68_spec (l : List Site) (w : Int) (hl : siteLen l) (Y : List YF) : callS ev fs 68 [zSites l, zI w] [] Y = some (.ret (zRes (mRes l w)), []) := by
  refine callS_by f68_eq rfl ?_
  simp only [bodyOf, Go.Proofs.Try.f68, Option.getD_some]
  have h158 := f158_spec l hl []
  have hll := hl.1
  simp only [go_sem] at h158
  by_cases c0 : ¬ mSites l = 0
  · simp [go_sem, h158, c0, mRes, zRes]
  replace c0 := Decidable.not_not.1 c0
  by_cases c1 : w < 0
  · simp [go_sem, h158, c0, c1, mRes, zRes, show ¬ 0 ≤ w by omega]
  by_cases c2 : (l.length : Int) ≤ w
  · simp [go_sem, h158, c0, c1, c2, mRes, zRes, show 0 ≤ w by omega, show l[w.toNat]? = none from List.getElem?_eq_none (by omega)]
  obtain ⟨n, rfl⟩ : ∃ n : Nat, w = n := ⟨w.toNat, by omega⟩
  have hn : n < l.length := by omega
  have hb := hl.2 _ (List.getElem_mem hn)
  obtain ⟨R, hR⟩ := f68_loop l[n] n l hb hl Y
  have hm : mRes l n = if l[n].role = 1 ∨ l[n].role = 2 ∨ l[n].role = 3 then .inl (resOut l[n] n l) else .inr 18 := by simp [mRes, c0, hn]
  rw [hm]
  obtain ⟨e1, e2⟩ := res_len l[n] n l 0 ([], []) _ (resOut_fold l[n] n l)
  generalize hbest : l[n] = best at *
  generalize resOut best n l = ro at *
  obtain ⟨out, fen⟩ := ro
  simp only [List.length_nil, Nat.zero_add] at e1 e2
  simp only [bodyOf, Go.Proofs.Try.f68, Option.getD_some, loopsOf, rangesOf, List.nil_append, List.append_nil, List.cons_append, List.getElem?_cons_zero, List.getElem?_cons_succ] at hR
  simp only [go_sem, and_imp] at hR
  have htk : (siteRows out).take l.length = siteRows out := List.take_of_length_le (by rw [siteRows_len]; omega)
  have hpp := siteRows_pure out
  have hle : l.length ≤ out.length := by omega
  simp only [siteRows] at htk hpp
  by_cases r1 : best.role = 1
  · simp [go_sem, h158, c0, c1, hn, hbest, r1, hR, freeze_os, htk, hpp, hle, zRes, siteRows, show ¬ l.length ≤ n by omega, show n < 1000000000 by omega]
  by_cases r2 : best.role = 2
  · simp [go_sem, h158, c0, c1, hn, hbest, r2, hR, freeze_os, htk, hpp, hle, zRes, siteRows, show ¬ l.length ≤ n by omega, show n < 1000000000 by omega]
  by_cases r3 : best.role = 3
  · simp [go_sem, h158, c0, c1, hn, hbest, r3, hR, freeze_os, htk, hpp, hle, zRes, siteRows, show ¬ l.length ≤ n by omega, show n < 1000000000 by omega]
  simp [go_sem, h158, c0, c1, hn, hbest, r1, r2, r3, zRes, show ¬ l.length ≤ n by omega, show n < 1000000000 by omega]
end Go.Proofs.Ytlphdiccffnckaa

/- Layer 54: Diverged of the reference; equal sites and equal pairs. -/
namespace Go.Proofs.Ytlphdiccffnckaa
open Go Go.Abs
theorem f66_eq : fs 66 = some (mkFn w66 Go.Proofs.Try.f66 (bodyOf Go.Proofs.Try.f66)) := by kernel_rfl

@[go_sem] def zPairs (l : List (Nat × Nat)) : AV := .sl false 1 (l.map fun p => [.sl false 1 [[.sc (.int .i64 p.1)], [.sc (.int .i64 p.2)]]])
def rowF (a : Site) (i : Nat) (j : Nat) (s : List (Nat × Nat)) (b : Site) : List (Nat × Nat) ⊕ Empty := .inl (if mApart a b = true then s ++ [(i, i + 1 + j)] else s)
def rowOf (l : List Site) (a : Site) (i : Nat) (s : List (Nat × Nat)) : List (Nat × Nat) := match foldE (rowF a i) 0 s (l.drop (i + 1)) with
  | .inl t => t
def divF (l : List Site) (i : Nat) (s : List (Nat × Nat)) (a : Site) : List (Nat × Nat) ⊕ Empty := .inl (rowOf l a i s)
def mDiv (l : List Site) : List (Nat × Nat) := match foldE (divF l) 0 [] l with
  | .inl t => t
theorem row_fold (l : List Site) (a : Site) (i : Nat) (s : List (Nat × Nat)) : foldE (rowF a i) 0 s (l.drop (i + 1)) = .inl (rowOf l a i s) := by
  unfold rowOf
  cases foldE (rowF a i) 0 s (l.drop (i + 1)) with
  | inl s => rfl
  | inr r => exact nomatch r
theorem div_fold (l : List Site) : foldE (divF l) 0 [] l = .inl (mDiv l) := by
  unfold mDiv
  cases foldE (divF l) 0 [] l with
  | inl s => rfl
  | inr r => exact nomatch r
theorem rowF_len (a : Site) (i : Nat) : ∀ (m : List Site) (j : Nat) (s t : List (Nat × Nat)), foldE (rowF a i) j s m = .inl t → t.length ≤ s.length + m.length
  | [], _, s, t, h => by simp only [foldE, Sum.inl.injEq] at h; subst h; simp
  | b :: m, j, s, t, h => by
    simp only [foldE, rowF] at h
    have := rowF_len a i m _ _ _ h
    simp only [List.length_cons]
    split at this
    · simp at this; omega
    · omega
theorem row_len (l : List Site) (a : Site) (i : Nat) (s : List (Nat × Nat)) : (rowOf l a i s).length ≤ s.length + l.length := by
  have := rowF_len a i _ _ _ _ (row_fold l a i s)
  simp at this
  omega
theorem div_len (l : List Site) : ∀ (m : List Site) (i : Nat) (s t : List (Nat × Nat)), foldE (divF l) i s m = .inl t → t.length ≤ s.length + m.length * l.length
  | [], _, s, t, h => by simp only [foldE, Sum.inl.injEq] at h; subst h; simp
  | b :: m, j, s, t, h => by
    simp only [foldE, divF] at h
    have h1 := div_len l m _ _ _ h
    have h2 := row_len l b j s
    simp only [List.length_cons, Nat.add_mul, Nat.one_mul]
    omega
/-- What Diverged returns, or its error. -/
def zDiv (l : List Site) : AV := if mSites l = 0 then .tup [zPairs (mDiv l), zI 0] else .tup [.sc (.slice none 0 0), zI (mSites l)]

def pairRows (l : List (Nat × Nat)) : List (List AV) := l.map fun p => [.sl false 1 [[.sc (.int .i64 p.1)], [.sc (.int .i64 p.2)]]]
theorem pairRows_len (l : List (Nat × Nat)) : (pairRows l).length = l.length := by simp [pairRows]
theorem pairRows_pure (l : List (Nat × Nat)) : AV.pureLL (pairRows l) = true := pureLL_map (fun s => rfl) l

theorem f66_spec (l : List Site) (hl : siteLen l) (Y : List YF) : callS ev fs 66 [zSites l] [] Y = some (.ret (zDiv l), []) := by
  refine callS_by f66_eq rfl ?_
  simp only [bodyOf, Go.Proofs.Try.f66, Option.getD_some]
  have h158 := f158_spec l hl []
  have hln := hl.1
  simp only [go_sem] at h158
  by_cases c0 : ¬ mSites l = 0
  · simp [go_sem, h158, c0, zDiv]
  replace c0 := Decidable.not_not.1 c0
  have h4 : l.length ≤ 4 := by
    unfold mSites at c0
    split at c0
    · cases c0
    · omega
  obtain ⟨R, hR⟩ := fold_loop (E := ev) (C := callS ev fs) (Y := Y) (w := w66) (a := (loopsOf (bodyOf Go.Proofs.Try.f66))[0]?.getD .skip) (b := 0) 
    l (divF l) ([] : List (Nat × Nat)) (ex := fun (r : Empty) => nomatch r)
    (fun i s st => s.length ≤ i * 4 ∧ Live [(0, zSites l), (5, .os 0 0 s.length s.length), (6, zI i)] [.own s.length 1 (pairRows s)] 0 st)
    (fun s => Live [(5, .os 0 0 s.length s.length)] [.own s.length 1 (pairRows s)] 0) (fun r => nomatch r)
    (fun i s st hi h => by
      obtain ⟨hsl, h⟩ := h
      have hrl := row_len l l[i] i s
      obtain ⟨S, hS⟩ := fold_loop (E := ev) (C := callS ev fs) (Y := Y) (w := w66) (a := (loopsOf (bodyOf Go.Proofs.Try.f66))[1]?.getD .skip) (b := 2) 
        (l.drop (i + 1)) (rowF l[i] i) s (ex := fun (r : Empty) => nomatch r)
        (fun j t st => t.length ≤ i * 4 + j ∧ Live [(0, zSites l), (5, .os 0 0 t.length t.length), (6, zI i), (7, zI (i + 1 + j : Nat))] [.own t.length 1 (pairRows t)] 0 st)
        (fun t => Live [(0, zSites l), (5, .os 0 0 t.length t.length), (6, zI i)] [.own t.length 1 (pairRows t)] 0) (fun r => nomatch r)
        (fun j t st hj h => by
          obtain ⟨htl, h⟩ := h
          obtain ⟨tm, H, b⟩ := st
          simp only [bodyOf, Go.Proofs.Try.f66, Option.getD_some, loopsOf, rangesOf, List.nil_append, List.append_nil, List.cons_append, List.getElem?_cons_zero, List.getElem?_cons_succ]
          simp only [go_sem] at h
          obtain ⟨g0, g5, g6, g7, rfl, rfl⟩ := h
          have hk : i + 1 + j < l.length := by simp at hj; omega
          simp only [List.getElem_drop]
          have h159 := f159_spec l[i] l[i + 1 + j] (hl.2 _ (List.getElem_mem hi)) (hl.2 _ (List.getElem_mem hk)) []
          have hrm : room (t.length + 1) 24 = true := room_ok (by omega) (by omega) (by omega)
          have htk : (pairRows t).take t.length = pairRows t := List.take_of_length_le (by rw [pairRows_len]; exact Nat.le_refl _)
          have hpl := pairRows_len t
          obtain ⟨k, hkk⟩ : ∃ k, i + 1 + j = k := ⟨_, rfl⟩
          simp only [hkk] at g7 h159 ⊢
          have hk' : k < l.length := by omega
          simp only [go_sem] at h159
          cases c : mApart l[i] l[k] with
          | true =>
            rw [c] at h159
            simp only [rowF, c, if_true, hkk]
            simp [go_sem, g0, g5, g6, g7, hi, hk', h159, hrm, htk, hpl, slLit, Go.Abs.chunks, show i < 1000000000 by omega, show k < 1000000000 by omega, show t.length ≤ i * 4 + j by omega]
            refine ⟨by omega, by omega, ?_⟩
            simp [pairRows]
          | false =>
            rw [c] at h159
            simp only [rowF, c, Bool.false_eq_true, if_false]
            simp [go_sem, g0, g5, g6, g7, hi, hk', h159, show i < 1000000000 by omega, show k < 1000000000 by omega, show t.length ≤ i * 4 + (j + 1) by omega]
            omega)
        (fun t st h => by
          obtain ⟨htl, h⟩ := h
          obtain ⟨tm, H, b⟩ := st
          simp only [bodyOf, Go.Proofs.Try.f66, Option.getD_some, loopsOf, rangesOf, List.nil_append, List.append_nil, List.cons_append, List.getElem?_cons_zero, List.getElem?_cons_succ]
          simp only [go_sem] at h
          obtain ⟨g0, g5, g6, g7, rfl, rfl⟩ := h
          simp only [List.length_drop] at g7
          rw [show i + 1 + (l.length - (i + 1)) = l.length by omega] at g7
          simp [go_sem, g0, g5, g6, g7])
        (fun r => nomatch r)
      simp only [bodyOf, Go.Proofs.Try.f66, Option.getD_some, loopsOf, rangesOf, List.nil_append, List.append_nil, List.cons_append, List.getElem?_cons_zero, List.getElem?_cons_succ] at hS
      rw [row_fold] at hS
      simp only [divF]
      generalize rowOf l l[i] i s = s' at *
      simp [go_sem, hsl] at hS
      obtain ⟨tm, H, b⟩ := st
      simp only [bodyOf, Go.Proofs.Try.f66, Option.getD_some, loopsOf, rangesOf, List.nil_append, List.append_nil, List.cons_append, List.getElem?_cons_zero, List.getElem?_cons_succ]
      simp only [go_sem] at h
      obtain ⟨g0, g5, g6, rfl, rfl⟩ := h
      simp [go_sem, g0, g5, g6, hi, hS, show i < 1000000000 by omega]
      omega)
    (fun s st h => by
      obtain ⟨_, h⟩ := h
      obtain ⟨tm, H, b⟩ := st
      simp only [bodyOf, Go.Proofs.Try.f66, Option.getD_some, loopsOf, rangesOf, List.nil_append, List.append_nil, List.cons_append, List.getElem?_cons_zero, List.getElem?_cons_succ]
      simp only [go_sem] at h
      obtain ⟨g0, g5, g6, rfl, rfl⟩ := h
      simp [go_sem, g0, g5, g6])
    (fun r => nomatch r)
  simp only [bodyOf, Go.Proofs.Try.f66, Option.getD_some, loopsOf, rangesOf, List.nil_append, List.append_nil, List.cons_append, List.getElem?_cons_zero, List.getElem?_cons_succ] at hR
  rw [div_fold] at hR
  simp only [zDiv, c0, if_true]
  generalize mDiv l = d at *
  have htk : (pairRows d).take d.length = pairRows d := List.take_of_length_le (by rw [pairRows_len]; exact Nat.le_refl _)
  have hpp := pairRows_pure d
  simp only [pairRows] at hR htk hpp
  simp [go_sem] at hR
  simp [go_sem, h158, c0, hR, freeze_os, htk, hpp]
end Go.Proofs.Ytlphdiccffnckaa

/- Layer 54: Diverged. -/
namespace Go.Proofs.Ytlphdiccffnckaa
open Go Go.Abs
theorem f65_eq : fs 65 = some (mkFn w65 Go.Proofs.Try.f65 (bodyOf Go.Proofs.Try.f65)) := by kernel_rfl
theorem f156_eq : fs 156 = some (mkFn w156 Go.Proofs.Try.f156 (bodyOf Go.Proofs.Try.f156)) := by kernel_rfl
theorem f209_eq : fs 209 = some (mkFn {} Go.Proofs.Try.f209 (bodyOf Go.Proofs.Try.f209)) := by kernel_rfl

theorem f156_spec (n : Nat) (H : List Ent) (Y : List YF) : callS ev fs 156 [zI n] H Y = some (.ret (.fn 209 [.bp H.length 0]), H ++ [.box [zI n]]) := by
  refine callS_by f156_eq rfl ?_
  simp only [bodyOf, Go.Proofs.Try.f156, Option.getD_some]
  simp [go_sem]

def addPair (l : List Site) (i k : Nat) (s : List (Nat × Nat)) : List (Nat × Nat) := match l[i]?, l[k]? with
  | some a, some b => if mApart a b = true then s ++ [(i, k)] else s
  | _, _ => s

theorem f209_spec (l : List Site) (P : List (Nat × Nat) → List Ent → Prop) (kb j L : Nat) (y : YF) (Y : List YF) (H : List Ent) (h4 : l.length ≤ 4) (hy : Y[j]? = some y)
    (hP : ∀ s H, P s H → H[kb]? = some (.box [zI l.length]) ∧ H.length = L)
    (hyield : ∀ i k s H, i < l.length → k < l.length → s.length ≤ 100 → P s H → ∃ H', y [zI i, zI k] H = some (.ret (.sc (.bool true)), H') ∧ P (addPair l i k s) H')
    (h0 : P [] H) : ∃ H', callS ev fs 209 [.yl j, .bp kb 0] H Y = some (.ret (.tup []), H') ∧ P (mDiv l) H' := by
  have hL := (hP _ _ h0).2
  obtain ⟨R, hR⟩ := fold_loop (E := ev) (C := callS ev fs) (Y := Y) (w := {}) (a := (loopsOf (bodyOf Go.Proofs.Try.f209))[0]?.getD .skip) (b := 0) 
    l (divF l) ([] : List (Nat × Nat)) (ex := fun (r : Empty) => nomatch r)
    (fun i s st => (s.length ≤ i * 4 ∧ P s st.H) ∧ LiveT [(0, .yl j), (1, .bp kb 0), (5, zI l.length), (6, zI i)] L st)
    (fun s st => P s st.H ∧ LiveT [] L st) (fun r => nomatch r)
    (fun i s st hi h => by
      obtain ⟨⟨hsl, hp⟩, h⟩ := h
      have hrl := row_len l l[i] i s
      obtain ⟨S, hS⟩ := fold_loop (E := ev) (C := callS ev fs) (Y := Y) (w := {}) (a := (loopsOf (bodyOf Go.Proofs.Try.f209))[1]?.getD .skip) (b := 2) 
        (l.drop (i + 1)) (rowF l[i] i) s (ex := fun (r : Empty) => nomatch r)
        (fun m t st => (t.length ≤ i * 4 + m ∧ P t st.H) ∧ LiveT [(0, .yl j), (1, .bp kb 0), (3, zI i), (4, zI (i + 1 + m : Nat)), (5, zI l.length), (6, zI i)] L st)
        (fun t st => P t st.H ∧ LiveT [(0, .yl j), (1, .bp kb 0), (5, zI l.length), (6, zI i)] L st) (fun r => nomatch r)
        (fun m t st hm h => by
          obtain ⟨⟨htl, hp⟩, h⟩ := h
          obtain ⟨tm, H, b⟩ := st
          simp only [bodyOf, Go.Proofs.Try.f209, Option.getD_some, loopsOf, rangesOf, List.nil_append, List.append_nil, List.cons_append, List.getElem?_cons_zero, List.getElem?_cons_succ]
          simp only [go_sem] at h
          obtain ⟨g0, g1, g3, g4, g5, g6, rfl⟩ := h
          simp only at hp
          have hk : i + 1 + m < l.length := by simp at hm; omega
          simp only [List.getElem_drop, rowF]
          obtain ⟨p1, p2⟩ := hP _ _ hp
          have hy2 := hyield i (i + 1 + m) t H hi hk (by omega) hp
          have hadd : addPair l i (i + 1 + m) t = if mApart l[i] l[i + 1 + m] = true then t ++ [(i, i + 1 + m)] else t := by simp [addPair, hi, hk]
          rw [hadd] at hy2
          obtain ⟨k, hkk⟩ : ∃ k, i + 1 + m = k := ⟨_, rfl⟩
          simp only [hkk] at g4 hy2 ⊢
          have hk' : k < l.length := by omega
          obtain ⟨H', y1, y2⟩ := hy2
          simp only [go_sem] at y1 p1
          simp [go_sem, g0, g1, g3, g4, g5, g6, p1, hk', hy, y1, show k < 1000000000 by omega]
          refine ⟨⟨?_, y2⟩, by omega⟩
          split
          · simp; omega
          · omega)
        (fun t st h => by
          obtain ⟨⟨_, hp⟩, h⟩ := h
          obtain ⟨tm, H, b⟩ := st
          simp only [bodyOf, Go.Proofs.Try.f209, Option.getD_some, loopsOf, rangesOf, List.nil_append, List.append_nil, List.cons_append, List.getElem?_cons_zero, List.getElem?_cons_succ]
          simp only [go_sem] at h
          obtain ⟨g0, g1, g3, g4, g5, g6, rfl⟩ := h
          simp only at hp
          obtain ⟨p1, p2⟩ := hP _ _ hp
          simp only [List.length_drop] at g4
          rw [show i + 1 + (l.length - (i + 1)) = l.length by omega] at g4
          simp only [go_sem] at p1
          simp [go_sem, g0, g1, g3, g4, g5, g6, p1]
          exact hp)
        (fun r => nomatch r)
      simp only [bodyOf, Go.Proofs.Try.f209, Option.getD_some, loopsOf, rangesOf, List.nil_append, List.append_nil, List.cons_append, List.getElem?_cons_zero, List.getElem?_cons_succ] at hS
      rw [row_fold] at hS
      simp only [divF]
      generalize rowOf l l[i] i s = s' at *
      simp [go_sem, hsl] at hS
      obtain ⟨tm, H, b⟩ := st
      simp only [bodyOf, Go.Proofs.Try.f209, Option.getD_some, loopsOf, rangesOf, List.nil_append, List.append_nil, List.cons_append, List.getElem?_cons_zero, List.getElem?_cons_succ]
      simp only [go_sem] at h
      obtain ⟨g0, g1, g5, g6, rfl⟩ := h
      simp only at hp
      simp [go_sem, g0, g1, g5, g6, hi, hp, hS, show i < 1000000000 by omega, show s'.length ≤ (i + 1) * 4 by omega])
    (fun s st h => by
      obtain ⟨⟨_, hp⟩, h⟩ := h
      obtain ⟨tm, H, b⟩ := st
      simp only [bodyOf, Go.Proofs.Try.f209, Option.getD_some, loopsOf, rangesOf, List.nil_append, List.append_nil, List.cons_append, List.getElem?_cons_zero, List.getElem?_cons_succ]
      simp only [go_sem] at h
      obtain ⟨g0, g1, g5, g6, rfl⟩ := h
      simp only at hp
      simp [go_sem, g0, g1, g5, g6]
      exact hp)
    (fun r => nomatch r)
  rw [div_fold] at hR
  obtain ⟨p1, p2⟩ := hP _ _ h0
  simp only [go_sem] at p1
  simp only [bodyOf, Go.Proofs.Try.f209, Option.getD_some, loopsOf, rangesOf, List.nil_append, List.append_nil, List.cons_append, List.getElem?_cons_zero, List.getElem?_cons_succ] at hR
  simp [go_sem] at hR
  generalize mDiv l = d at *
  have hT : ∀ st, P [] st.H → st.tm.get 0 = .yl j → st.tm.get 1 = .bp kb 0 → st.tm.get 5 = zI l.length → st.tm.get 6 = zI 0 → st.b = L → (R st).H.take L = (R st).H := fun st a1 a2 a3 a4 a5 a6 => by
    obtain ⟨_, h1, _⟩ := hR st a1 a2 a3 a4 a5 a6
    exact List.take_of_length_le (by rw [(hP _ _ h1).2]; exact Nat.le_refl _)
  obtain ⟨H', h1, h2⟩ : ∃ H', outC ev.T [] false H.length (dn ev (callS ev fs) Y {} (bodyOf Go.Proofs.Try.f209) { tm := Slots.init 0 [.yl j, .bp kb 0], H := H, b := H.length }) = some (.ret (.tup []), H') ∧ P d H' := by
    simp only [bodyOf, Go.Proofs.Try.f209, Option.getD_some]
    simp only [go_sem] at hT
    rw [hL]
    simp [go_sem, p1, h0, hR, hT]
  exact ⟨H', callS_by f209_eq rfl h1, h2⟩

def entsV (l : List Site) (s : List (Nat × Nat)) (lp : LoopState) : List Ent :=
  [.box [zSites l], .box [.os 2 0 s.length s.length], .own s.length 1 (pairRows s), .box [zI l.length], .loop lp none]

theorem f65_round (l : List Site) (hl : siteLen l) (h4 : l.length ≤ 4) (s : List (Nat × Nat)) (hs : s.length < 100000000) (i k : Nat) (hi : i < l.length) (hk : k < l.length) (tm : Slots) (h1 : tm.get 1 = .bp 0 0) (h5 : tm.get 5 = .bp 1 0) (Y : List YF) :
    roundOf [16, 17] tm 4 (dn ev (callS ev fs) Y w65 ((rangesOf (bodyOf Go.Proofs.Try.f65))[0]?.getD (.skip, .skip)).1) (dn ev (callS ev fs) Y w65 ((rangesOf (bodyOf Go.Proofs.Try.f65))[0]?.getD (.skip, .skip)).2) [zI i, zI k] (entsV l s .ready) =
      some (.ret (.sc (.bool true)), entsV l (addPair l i k s) .ready) := by
  simp only [bodyOf, Go.Proofs.Try.f65, Option.getD_some, rangesOf, List.nil_append, List.append_nil, List.cons_append, List.getElem?_cons_zero]
  have h157 := f157_spec l[i] l[k] (hl.2 _ (List.getElem_mem hi)) (hl.2 _ (List.getElem_mem hk)) []
  have hrm : room (s.length + 1) 24 = true := room_ok (by omega) (by omega) (by omega)
  have hadd : addPair l i k s = if mApart l[i] l[k] = true then s ++ [(i, k)] else s := by simp [addPair, hi, hk]
  have htk : (pairRows s).take s.length = pairRows s := List.take_of_length_le (by rw [pairRows_len]; exact Nat.le_refl _)
  have hpl := pairRows_len s
  rw [hadd]
  simp only [go_sem] at h157
  cases c : mApart l[i] l[k] with
  | true =>
    rw [c] at h157
    simp [roundOf, roundEnd, entsV, Slots.putAll, Slots.put, refCells, refCell, go_sem, h1, h5, hi, hk, h157, hrm, htk, hpl, slLit, Go.Abs.chunks, show i < 1000000000 by omega, show k < 1000000000 by omega]
    simp [pairRows]
  | false =>
    rw [c] at h157
    simp [roundOf, roundEnd, entsV, Slots.putAll, Slots.put, refCells, refCell, go_sem, h1, h5, hi, hk, h157, show i < 1000000000 by omega, show k < 1000000000 by omega]

theorem f65_range (l : List Site) (hl : siteLen l) (h4 : l.length ≤ 4) (st : St) (h1 : st.tm.get 1 = .bp 0 0) (h5 : st.tm.get 5 = .bp 1 0) (hH : st.H = [.box [zSites l], .box [.os 2 0 0 0], .own 0 1 [], .box [zI l.length]]) (Y : List YF) :
    rangeFn (callS ev fs) Y (.fn 209 [.bp 3 0]) [16, 17] (dn ev (callS ev fs) Y w65 ((rangesOf (bodyOf Go.Proofs.Try.f65))[0]?.getD (.skip, .skip)).1) (dn ev (callS ev fs) Y w65 ((rangesOf (bodyOf Go.Proofs.Try.f65))[0]?.getD (.skip, .skip)).2) st =
      some (.normal, { st with H := (entsV l (mDiv l) .ready).take 4 }) := by
  obtain ⟨tm, H, b⟩ := st
  simp only at h1 h5 hH
  subst hH
  obtain ⟨H', q1, q2⟩ := f209_spec l (fun s H => H = entsV l s .ready) 3 Y.length 5
    (roundOf [16, 17] tm 4 (dn ev (callS ev fs) Y w65 ((rangesOf (bodyOf Go.Proofs.Try.f65))[0]?.getD (.skip, .skip)).1) (dn ev (callS ev fs) Y w65 ((rangesOf (bodyOf Go.Proofs.Try.f65))[0]?.getD (.skip, .skip)).2))
    (Y ++ [roundOf [16, 17] tm 4 (dn ev (callS ev fs) Y w65 ((rangesOf (bodyOf Go.Proofs.Try.f65))[0]?.getD (.skip, .skip)).1) (dn ev (callS ev fs) Y w65 ((rangesOf (bodyOf Go.Proofs.Try.f65))[0]?.getD (.skip, .skip)).2)])
    (entsV l [] .ready) h4 (by simp) (fun s H h => by rw [h]; exact ⟨rfl, rfl⟩)
    (fun i k s H hi hk hs h => by
      subst h
      exact ⟨_, f65_round l hl h4 s (by omega) i k hi hk tm h1 h5 Y, rfl⟩) rfl
  subst q2
  unfold rangeFn
  simp only
  have he : ([.box [zSites l], .box [.os 2 0 0 0], .own 0 1 [], .box [zI l.length]] : List Ent) ++ [.loop .ready none] = entsV l [] .ready := rfl
  have hlen : ([.box [zSites l], .box [.os 2 0 0 0], .own 0 1 [], .box [zI l.length]] : List Ent).length = 4 := rfl
  rw [he, hlen, q1]
  rfl

theorem mSites_four {l : List Site} (h : mSites l = 0) : l.length ≤ 4 := by
  unfold mSites at h
  split at h
  · cases h
  · omega
theorem f65_spec (l : List Site) (hl : siteLen l) (Y : List YF) : callS ev fs 65 [zSites l] [] Y = some (.ret (zDiv l), []) := by
  refine callS_by f65_eq rfl ?_
  simp only [bodyOf, Go.Proofs.Try.f65, Option.getD_some]
  have h155 := f155_spec l hl []
  simp only [go_sem] at h155
  by_cases c0 : ¬ mSites l = 0
  · simp [go_sem, h155, c0, zDiv]
  replace c0 := Decidable.not_not.1 c0
  have h4 := mSites_four c0
  have h1 := fun H => f156_spec l.length H Y
  have h2 := fun st a b c => f65_range l hl h4 st a b c Y
  simp only [bodyOf, Go.Proofs.Try.f65, Option.getD_some, rangesOf, List.nil_append, List.append_nil, List.cons_append, List.getElem?_cons_zero, go_sem] at h1 h2
  have htk : (pairRows (mDiv l)).take (mDiv l).length = pairRows (mDiv l) := List.take_of_length_le (by rw [pairRows_len]; exact Nat.le_refl _)
  have hpp := pairRows_pure (mDiv l)
  simp only [zDiv, c0, if_true]
  generalize mDiv l = d at *
  simp only [pairRows] at htk hpp
  simp [go_sem, freeze_os, h155, c0, h1, h2, entsV, pairRows, htk, hpp]
end Go.Proofs.Ytlphdiccffnckaa

