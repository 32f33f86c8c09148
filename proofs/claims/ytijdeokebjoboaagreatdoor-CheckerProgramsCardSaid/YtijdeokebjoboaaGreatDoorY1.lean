/- The law's helpers and its walk. No condition. -/
import Derived.Test.YtijdeokebjoboaaGreatDoorA5
import Derived.Test.YtijdeokebjoboaaGreatDoorW9
import Derived.Test.YtijdeokebjoboaaGreatDoorX2
import Derived.Test.YtijdeokebjoboaaGreatDoorW8
set_option linter.unusedVariables false
set_option linter.unusedSimpArgs false
set_option linter.unusedSectionVars false
set_option linter.unnecessarySimpa false
set_option maxHeartbeats 8000000
set_option maxRecDepth 100000
namespace Go.Proofs.Tryz
open Go Go.Pi Go.Num Go.Lin
variable [Hole]
theorem typed_str {d : Nat} {vs : List PV} (h : typed prog (d + 1) 26 vs) : ∃ l, vs = [.str (ba l)] := by
  simp only [typed, und26] at h
  obtain ⟨s, rfl, _⟩ := h
  exact ⟨s.data.toList, by rw [← ba_of]⟩
theorem typed_strs {d : Nat} {vs : List PV} (h : typed prog (d + 2) 22 vs) : ∃ v l, vs = [v] ∧ IsSL v l := by
  rw [typed, und22] at h
  rcases h with rfl | ⟨es, rfl, _, h⟩
  · exact ⟨_, [], rfl, .inl ⟨rfl, rfl⟩⟩
  · refine ⟨_, es.map bytesOf, rfl, .inr ?_⟩
    congr 1
    refine List.ext_getElem (by simp [SS]) fun i h1 h2 => ?_
    obtain ⟨a, b⟩ := h es[i] (List.getElem_mem h1)
    obtain ⟨l, e⟩ := typed_str a
    rw [agg26, cond_false] at b
    rw [b] at e
    have e := (List.cons.inj e).1
    simp only [SS, List.getElem_map, e, bytesOf, ba_list]
theorem typed_row {d : Nat} {vs : List PV} (h : typed prog (d + 3) 32 vs) : ∃ w l b, vs = [w, .str (ba b)] ∧ IsSL w l := by
  rw [typed, underlying32] at h
  obtain ⟨a, r, rfl, h1, b, r2, rfl, h2, rfl⟩ := h
  obtain ⟨w, l, rfl, hw⟩ := typed_strs h1
  obtain ⟨b, rfl⟩ := typed_str h2
  exact ⟨w, l, b, rfl, hw⟩
theorem typed_rows {d : Nat} {vs : List PV} (h : typed prog (d + 4) 23 vs) : ∃ v rows, vs = [v] ∧ ∀ o, IsRws v ⟨o, rows⟩ := by
  rw [typed, und23] at h
  rcases h with rfl | ⟨es, rfl, _, h⟩
  · exact ⟨_, [], rfl, fun o => .inl ⟨rfl, rfl⟩⟩
  · have key : ∀ i, i < es.length → ∃ z : List (List UInt8) × List UInt8, ∃ w, es[i]? = some (.agg [w, .str (ba z.2)]) ∧ IsSL w z.1 := fun i hi => by
      obtain ⟨a, b⟩ := h es[i] (List.getElem_mem hi)
      obtain ⟨w, l, t, e, hw⟩ := typed_row a
      rw [agg32, cond_true] at b
      obtain ⟨cs, hc⟩ := b
      rw [hc] at e
      refine ⟨(l, t), w, ?_, hw⟩
      rw [List.getElem?_eq_getElem hi, hc]
      exact congrArg some (congrArg PV.agg e)
    obtain ⟨Z, hZ⟩ := Deep.choose_lt key
    refine ⟨_, (List.range es.length).map Z, rfl, fun o => .inr ⟨es, rfl, by simp, fun i hi => ?_⟩⟩
    have hi' : i < es.length := by simpa using hi
    obtain ⟨w, h1, h2⟩ := hZ i hi'
    refine ⟨w, ?_, ?_⟩
    · rw [h1]; simp [TP.rb, hi']
    · simpa [TP.rc, hi'] using h2
theorem typed_program {d : Nat} {vs : List PV} (h : typed prog (d + 5) 25 vs) : ∃ t, IsTP (.agg vs) t := by
  rw [typed, underlying25] at h
  obtain ⟨a, r, rfl, h1, b, r2, rfl, h2, rfl⟩ := h
  obtain ⟨w, l, rfl, hw⟩ := typed_strs (d := d + 2) h1
  obtain ⟨v, rows, rfl, hv⟩ := typed_rows h2
  exact ⟨⟨l, rows⟩, w, v, rfl, hw, hv l⟩
theorem typed_outcome {d : Nat} {vs : List PV} (h : typed prog (d + 5) 28 vs) : ∃ t, IsTO (.agg vs) t := by
  rw [typed, underlying28] at h
  obtain ⟨a0, r0, rfl, h0, a1, r1, rfl, h1, a2, r2, rfl, h2, a3, r3, rfl, h3, a4, r4, rfl, h4, rfl⟩ := h
  have h0 : typed prog (d + 4) 3 a0 := h0
  rw [typed, und3] at h0
  obtain ⟨m, rfl, _⟩ := h0
  obtain ⟨b, rfl⟩ := typed_str (d := d + 3) h1
  obtain ⟨w2, l2, rfl, k2⟩ := typed_strs (d := d + 2) h2
  obtain ⟨w3, l3, rfl, k3⟩ := typed_strs (d := d + 2) h3
  obtain ⟨w4, l4, rfl, k4⟩ := typed_strs (d := d + 2) h4
  exact ⟨⟨m, b, l2, l3, l4⟩, w2, w3, w4, rfl, k2, k3, k4⟩
end Go.Proofs.Tryz
namespace Go.Proofs.Tryz
open Go Go.Pi Go.Num Go.Lin
variable [Hole] {G : Nat → Option PV}
def agreesR : CRel | [.int _ a, .int _ b], r => r = .bool ((a == 0 && b == 0) || (a == 27 && b != 0)) | _, _ => False
theorem agrees_ok (a b : Int) : Gives prog G 8 [.int .i64 a, .int .i64 b] (agreesR [.int .i64 a, .int .i64 b]) := by
  refine gives (S := []) (by kernel_rfl) (by kernel_rfl) (callW_of ann8 func8 rfl (by kernel_rfl) ?_)
  cases h1 : a == 0 <;> cases h2 : b == 0 <;> cases h3 : a == 27 <;>
  · have h4 : (b != 0) = !(b == 0) := rfl
    simp [h1, h2, h3, h4]
    exact outK_pure rfl (by simp [agreesR, h1, h2, h3, h4])
def longB (l : List UInt8) : Bool := decide (20 < l.length)
noncomputable def long1R : CRel | [.str s], r => r = .bool (longB s.data.toList) | _, _ => False
noncomputable def idxLR : CRel | [v, .func 17 []], r => ∃ n, r = .int .i64 n ∧ (0 ≤ n ↔ (sl v).any longB = true) | _, _ => False
noncomputable def contLR : CRel | [v, .func 17 []], r => r = .bool ((sl v).any longB) | _, _ => False
noncomputable def shortLR : CRel | [v], r => r = .bool (!(sl v).any longB) | _, _ => False
theorem long1_ok (l : List UInt8) : Gives prog G 17 [.str (ba l)] (long1R [.str (ba l)]) := by
  refine gives (S := []) (by kernel_rfl) (by kernel_rfl) (callW_of ann17 func17 rfl (by kernel_rfl) ?_)
  simp []
  refine outK_pure rfl ?_
  have e : decide ((20 : Int) < ((ba l).size : Int)) = longB l := by
    unfold longB
    rw [Bool.eq_iff_iff, decide_eq_true_iff, decide_eq_true_iff, ba_size]
    omega
  simp only [long1R, ba_list]
  show PV.bool _ = PV.bool _
  rw [← e]
def ixIL (L : List (List UInt8)) (v : PV) : Nat → List PV → St → Prop := fun n vs st => ∃ (i k : Nat) (H : List (Nat × Ent)), vs = [.int .i64 (i : Int), .int .i64 (L.length : Int), .func 17 [], v] ∧ i + n = L.length ∧ (∀ q, q < i → longB (gt L q) = false) ∧ st = ⟨k, H, []⟩
def anyL (L : List (List UInt8)) : Prop := L.any longB = true
theorem any_gt {L : List (List UInt8)} : anyL L ↔ ∃ q, q < L.length ∧ longB (gt L q) = true := by
  rw [anyL, List.any_eq_true]
  constructor
  · rintro ⟨x, hx, h⟩
    obtain ⟨q, hq, rfl⟩ := List.getElem_of_mem hx
    exact ⟨q, hq, by simpa [gt, List.getD, hq] using h⟩
  · rintro ⟨q, hq, h⟩
    exact ⟨L[q], List.getElem_mem hq, by simpa [gt, List.getD, hq] using h⟩
theorem idxL_ok (v : PV) (L : List (List UInt8)) (hv : IsSL v L) (hl : L.length < 100000) : Gives prog G 48 [v, .func 17 []] (idxLR [v, .func 17 []]) := by
  have hfe : idxLR [v, .func 17 []] = fun r => ∃ n, r = .int .i64 n ∧ (0 ≤ n ↔ anyL L) := by funext r; simp only [idxLR, sl_eq hv, anyL]
  rw [hfe]
  have lv := hv.len
  refine gives (S := [(17, long1R)]) (by kernel_rfl) (by kernel_rfl) (callW_of ann48 func48 rfl (by kernel_rfl) ?_)
  simp [lv]
  refine loopK_of (ixIL L v) rfl rfl ?step L.length _ _ ?init
  case init => exact ⟨0, _, _, rfl, by omega, fun q h => absurd h (Nat.not_lt_zero q), rfl⟩
  case step =>
  rintro n vs st ⟨i, k, H, rfl, hin, hall, rfl⟩
  rcases Nat.eq_zero_or_pos n with h0 | h0
  · have hi : i = L.length := by omega
    subst hi
    simp []
    refine outK_pure rfl ⟨_, rfl, fun h => by omega, fun h => ?_⟩
    obtain ⟨q, hq, h⟩ := any_gt.1 h
    rw [hall q hq] at h; cases h
  · have hi : i < L.length := by omega
    have hii : (i : Int) < L.length := by omega
    have wi : IntKind.i64.wrap ((i : Int) + 1) = ((i + 1 : Nat) : Int) := w_i64 (by omega)
    obtain rfl : v = .slice (SS L) := by
      rcases hv with ⟨_, h⟩ | h
      · rw [h] at hi; simp at hi
      · exact h
    have f1 := SS_get hi
    have f1' := getE f1
    have eg : L[i] = gt L i := by simp [gt, List.getD, hi]
    have sl1 := SS_len L
    simp [hi, hii, f1', sl1]
    refine callK_pure rfl rfl (long1_ok _) fun r hr => ?_
    simp only [long1R, ba_list, eg] at hr
    subst hr
    cases hq : longB (gt L i) with
    | true =>
      simp []
      exact outK_pure rfl ⟨_, rfl, fun _ => any_gt.2 ⟨i, hi, hq⟩, fun _ => by omega⟩
    | false =>
      simp [wi]
      refine ⟨n - 1, by omega, i + 1, _, _, rfl, by omega, fun q hq' => ?_, rfl⟩
      rcases lt_succ_cases hq' with h4 | rfl
      · exact hall q h4
      · exact hq
theorem contL_ok (v : PV) (L : List (List UInt8)) (hv : IsSL v L) (hl : L.length < 100000) : Gives prog G 16 [v, .func 17 []] (contLR [v, .func 17 []]) := by
  refine gives (S := [(48, idxLR)]) (by kernel_rfl) (by kernel_rfl) (callW_of ann16 func16 rfl (by kernel_rfl) ?_)
  simp []
  refine callK_pure rfl (by simp [PV.pureL, hv.pure, PV.pureB]) (idxL_ok v L hv hl) fun r hr => ?_
  simp only [idxLR] at hr
  obtain ⟨n, rfl, hn⟩ := hr
  simp []
  exact outK_pure rfl (by
    simp only [contLR]
    congr 1
    rw [Bool.eq_iff_iff, decide_eq_true_iff]
    exact hn)
theorem shortL_ok (v : PV) (L : List (List UInt8)) (hv : IsSL v L) (hl : L.length < 100000) : Gives prog G 6 [v] (shortLR [v]) := by
  refine gives (S := [(16, contLR)]) (by kernel_rfl) (by kernel_rfl) (callW_of ann6 func6 rfl (by kernel_rfl) ?_)
  simp []
  refine callK_pure rfl (by simp [PV.pureL, hv.pure, PV.pureB]) (contL_ok v L hv hl) fun r hr => ?_
  simp only [contLR] at hr
  subst hr
  simp []
  exact outK_pure rfl rfl
theorem uni_SS (L : List (List UInt8)) : uniform 1 (SS L) = true := by
  unfold uniform SS
  rw [List.all_eq_true]
  intro v hv
  obtain ⟨l, _, rfl⟩ := List.mem_map.1 hv
  rfl
theorem SS_app (a b : List (List UInt8)) : SS a ++ SS b = SS (a ++ b) := by simp [SS]
theorem SS_take (a : List (List UInt8)) (n : Nat) : (SS a).take n = SS (a.take n) := by simp [SS, List.map_take]
theorem SS_drop (a : List (List UInt8)) (n : Nat) : (SS a).drop n = SS (a.drop n) := by simp [SS, List.map_drop]
theorem IsSL.elems {v : PV} {l : List (List UInt8)} (h : IsSL v l) (hp : Nat → Option Ent) : Go.Pi.elems hp v = some (SS l) := by
  rcases h with ⟨rfl, rfl⟩ | rfl <;> rfl
theorem cons_SS (l : List UInt8) (L : List (List UInt8)) : SS (l :: L) = .str (ba l) :: SS L := rfl
theorem grow_own {S : Specs} (n k0 : Nat) (H : List (Nat × Ent)) (Z : List Nat) (hn : 0 < n) (hn2 : n ≤ 1000) :
    CallW prog (specEnv prog G S) G A1 15 [.nil, .int .i64 n] ⟨k0, H, Z⟩ (fun v st => ∃ j k, v = .own j 0 0 ∧ k0 ≤ j ∧ j < k ∧ st = ⟨k, (j, ⟨1, SS (List.replicate n [])⟩) :: H, Z⟩) := by
  refine callW_of ann15 func15 rfl (by kernel_rfl) ?_
  have w0 : IntKind.i64.wrap 0 = 0 := rfl
  have w1 : IntKind.i64.wrap ((n : Int) - 0) = n := by rw [Int.sub_zero]; exact w_i64 (by omega)
  have w2 : IntKind.i64.wrap (n : Int) = n := w_i64 (by omega)
  have n0 : ¬ (n : Int) < 0 := by omega
  have n1 : (0 : Int) < n := by omega
  have ur := uni_SS (List.replicate n [])
  have m1 : (2 * n + 1000) * 16 ≤ 140737488355328 := by omega
  obtain ⟨y, T, er⟩ : ∃ y T, SS (List.replicate n []) = y :: T := by
    cases h : SS (List.replicate n []) with
    | nil => have := SS_len (List.replicate n []); rw [h] at this; simp at this; omega
    | cons y T => exact ⟨y, T, rfl⟩
  have el : T.length + 1 = n := by have := SS_len (List.replicate n []); rw [er] at this; simpa using this
  rw [er] at ur
  have el2 : (2 * (T.length + 1) + 1000) * 16 ≤ 140737488355328 := by omega
  have n3 : n ≤ 16777216 := by omega
  simp [w0, w2, n0, n3, hn, appendOp, appended, rep_str, er, ur, el, m1, lenPV, sliceOp, sliceOf, highOf, lowOf]
  omega
def flN (Ls : List (List (List UInt8))) (i : Nat) : Nat := ((Ls.take i).flatten).length
theorem flat_succ {Ls : List (List (List UInt8))} {i : Nat} (h : i < Ls.length) : (Ls.take (i + 1)).flatten = (Ls.take i).flatten ++ Ls.getD i [] := by
  rw [List.take_add_one, List.flatten_append]
  simp [List.getD, h]
theorem flN_succ {Ls : List (List (List UInt8))} {i : Nat} (h : i < Ls.length) : flN Ls (i + 1) = flN Ls i + (Ls.getD i []).length := by
  unfold flN; rw [flat_succ h, List.length_append]
theorem flN_le {Ls : List (List (List UInt8))} (i : Nat) : flN Ls i ≤ Ls.flatten.length := by
  have : Ls.flatten = (Ls.take i).flatten ++ (Ls.drop i).flatten := by rw [← List.flatten_append, List.take_append_drop]
  rw [this, List.length_append]; unfold flN; omega
def caI1 (ws : List PV) (k0 : Nat) (H : List (Nat × Ent)) (Ls : List (List (List UInt8))) : Nat → List PV → St → Prop := fun w vs st => ∃ i k : Nat, vs = [.int .i64 (i : Int), .int .i64 (flN Ls i : Int), .int .i64 (Ls.length : Int), .slice ws, .slice ws] ∧ i + w = Ls.length ∧ k0 ≤ k ∧ st = ⟨k, H, []⟩
def caE (Ls : List (List (List UInt8))) (i : Nat) : List PV := SS ((Ls.take i).flatten ++ List.replicate (Ls.flatten.length - flN Ls i) [])
def caI2 (ws : List PV) (j k0 : Nat) (H : List (Nat × Ent)) (Ls : List (List (List UInt8))) : Nat → List PV → St → Prop := fun w vs st => ∃ i k : Nat, vs = [.int .i64 (i : Int), .int .i64 (Ls.length : Int), .own j 0 (flN Ls i), .slice ws] ∧ i + w = Ls.length ∧ j < k ∧ st = ⟨k, (j, ⟨1, caE Ls i⟩) :: H, []⟩
theorem caE_len (Ls : List (List (List UInt8))) (i : Nat) : (caE Ls i).length = Ls.flatten.length := by
  have := flN_le (Ls := Ls) i
  unfold caE
  rw [SS_len, List.length_append, List.length_replicate]
  show flN Ls i + _ = _
  omega
theorem caE_step {Ls : List (List (List UInt8))} {i : Nat} (h : i < Ls.length) : (caE Ls i).take (flN Ls i) ++ (SS (Ls.getD i []) ++ (caE Ls i).drop (flN Ls i + (Ls.getD i []).length)) = caE Ls (i + 1) := by
  have h1 := flN_le (Ls := Ls) (i + 1)
  rw [flN_succ h] at h1
  unfold caE
  rw [SS_take, SS_drop, SS_app, SS_app, flat_succ h, flN_succ h]
  congr 1
  have e1 : (Ls.take i).flatten.length = flN Ls i := rfl
  rw [List.take_append_of_le_length (by rw [e1]; exact Nat.le_refl _), List.take_of_length_le (by rw [e1]; exact Nat.le_refl _), List.append_assoc]
  congr 2
  rw [List.drop_append, List.drop_of_length_le (by rw [e1]; omega), e1, List.nil_append, List.drop_replicate]
  congr 1
  omega
theorem concat_own {S : Specs} (hS : Go.Pi.look S 15 = none) (ws : List PV) (Ls : List (List (List UInt8))) (k0 : Nat) (H : List (Nat × Ent)) (hl : ws.length = Ls.length)
    (hw : ∀ i, i < Ls.length → ∃ w, ws[i]? = some w ∧ IsSL w (Ls.getD i []))
    (hT : 0 < Ls.flatten.length) (hT2 : Ls.flatten.length ≤ 1000) (hm : Ls.length ≤ 1000) :
    CallW prog (specEnv prog G S) G A1 5 [.slice ws] ⟨k0, H, []⟩ (fun v st => ∃ j k, v = .own j 0 Ls.flatten.length ∧ k0 ≤ j ∧ j < k ∧ st = ⟨k, (j, ⟨1, SS Ls.flatten⟩) :: H, []⟩) := by
  refine callW_of ann5 func5 rfl (by kernel_rfl) ?_
  obtain ⟨T, hTe⟩ : ∃ T, T = Ls.flatten.length := ⟨_, rfl⟩
  obtain ⟨F, hFe⟩ : ∃ F, F = Ls.flatten := ⟨_, rfl⟩
  rw [← hTe] at hT hT2
  rw [← hTe, ← hFe]
  simp [lenPV, hl]
  refine loopK_of (caI1 ws k0 H Ls) rfl rfl ?step1 Ls.length _ _ ?init1
  case init1 => exact ⟨0, _, rfl, by omega, by omega, rfl⟩
  case step1 =>
  rintro w vs st ⟨i, k, rfl, hiw, hk, rfl⟩
  rcases Nat.eq_zero_or_pos w with h0 | h0
  · have hi : i = Ls.length := by omega
    subst hi
    have eT : flN Ls Ls.length = T := by unfold flN; rw [List.take_length, hTe]
    simp [eT]
    refine callK_run (by simp only [specEnv, hS]; rfl) ((grow_own (S := S) T _ H [] hT hT2).mono fun v st h => ?_)
    obtain ⟨j, k, rfl, hj, hjk, rfl⟩ := h
    simp [lenPV, hl]
    have e0 : SS (List.replicate T []) = caE Ls 0 := by simp [caE, flN, hTe]
    rw [e0]
    refine loopK_of (caI2 ws j k0 H Ls) rfl rfl ?step2 Ls.length _ _ ?init2
    case init2 => exact ⟨0, _, rfl, by omega, by omega, rfl⟩
    case step2 =>
    rintro w2 vs st ⟨i, k2, rfl, hi2, hjk2, rfl⟩
    rcases Nat.eq_zero_or_pos w2 with h3 | h3
    · have hi : i = Ls.length := by omega
      subst hi
      simp [eT]
      refine ⟨by omega, _, by omega, rfl, ?_⟩
      unfold caE
      rw [eT, ← hTe, Nat.sub_self, List.take_length, hFe]
      simp
    · have hi : i < Ls.length := by omega
      have hii : (i : Int) < Ls.length := by omega
      have wi : IntKind.i64.wrap ((i : Int) + 1) = ((i + 1 : Nat) : Int) := w_i64 (by omega)
      obtain ⟨l, hle⟩ : ∃ l, l = Ls.getD i [] := ⟨_, rfl⟩
      obtain ⟨w, f1, f0⟩ := hw i hi
      rw [← hle] at f0
      obtain ⟨f3, f2, _⟩ := f0.cell
      have f5' := f0.elems
      have f1' := getE f1
      have cl : (caE Ls i).length = T := by rw [caE_len, hTe]
      have us := uni_SS l
      have sl1 := SS_len l
      have h1 := flN_le (Ls := Ls) (i + 1)
      rw [flN_succ hi, ← hTe, ← hle] at h1
      have m1 : flN Ls i ≤ T := by rw [hTe]; exact flN_le i
      have m2 : (2 * (flN Ls i + l.length) + 1000) * 16 ≤ 140737488355328 := by omega
      have st := caE_step hi
      have fs := flN_succ hi
      rw [← hle] at st fs
      simp [hii, hi, hl, f1', f2, appendOp, appended, f5', cl, us, sl1, h1, m1, m2, wi, st]
      exact ⟨w2 - 1, by omega, i + 1, _, by rw [fs]; rfl, by omega, by omega, rfl⟩
  · have hi : i < Ls.length := by omega
    have hii : (i : Int) < Ls.length := by omega
    have wi : IntKind.i64.wrap ((i : Int) + 1) = ((i + 1 : Nat) : Int) := w_i64 (by omega)
    obtain ⟨l, hle⟩ : ∃ l, l = Ls.getD i [] := ⟨_, rfl⟩
    obtain ⟨w', f1, f0⟩ := hw i hi
    rw [← hle] at f0
    obtain ⟨f3, f2, _⟩ := f0.cell
    have f4 := f0.len
    have f1' := getE f1
    have h1 := flN_le (Ls := Ls) (i + 1)
    have fs := flN_succ hi
    rw [← hle] at fs
    rw [← hTe] at h1
    have wf : IntKind.i64.wrap ((flN Ls i : Int) + l.length) = ((flN Ls (i + 1) : Nat) : Int) := by rw [fs]; exact w_i64 (by omega)
    have wn : ¬ ((flN Ls (i + 1) : Nat) : Int) < 0 := by omega
    simp [hii, hi, hl, f1', f2, f4, wi, wf, wn]
    exact ⟨w - 1, by omega, i + 1, _, rfl, by omega, by omega, rfl⟩
theorem pw_ten10 : ∀ n : Nat, pw n ≤ ((10 ^ (10 * n) : Nat) : Int)
  | 0 => by simp [pw]
  | n + 1 => by
    have ih := pw_ten10 n
    have e : (10 : Nat) ^ (10 * (n + 1)) = 10000000000 * 10 ^ (10 * n) := by rw [Nat.mul_add, Nat.pow_add, Nat.mul_comm]
    rw [e]
    generalize (10 : Nat) ^ (10 * n) = Y at *
    have h0 := pw_pos n
    simp only [pw]
    omega
theorem text_short {l : List UInt8} {q : Rat} (h : RatText l q) (f : RFits q 601) : l.length ≤ 20000 := by
  obtain ⟨k, hk⟩ : ∃ k, k = 10 * 601 := ⟨_, rfl⟩
  have hp := pw_ten10 601
  rw [← hk] at hp
  have h1 : ((q.num.natAbs : Nat) : Int) < ((10 ^ k : Nat) : Int) := Int.lt_of_lt_of_le f.num hp
  have h2 : (((q.den : Int).natAbs : Nat) : Int) < ((10 ^ k : Nat) : Int) := Int.lt_of_lt_of_le f.den hp
  have h3 : (q.den : Int).natAbs = q.den := rfl
  rw [h3] at h2
  have := h.len (k := k) (Int.ofNat_lt.1 h1) (Int.ofNat_lt.1 h2) (by omega)
  omega
theorem rd_short {l : List (List UInt8)} {x : List Rat} (h : Rd l x) (f : LFits x 601) : LShort l := fun i hi => text_short (h.2 i hi) (f i (by rw [h.1]; exact hi))
theorem no_nil {q : Rat} (h : RatText [] q) : False := by
  rcases h with ⟨_, h⟩ | ⟨_, a, b, e, _⟩
  · rcases h with ⟨_, h⟩ | ⟨_, r, e, _⟩
    · exact h.ne rfl
    · cases e
  · simp at e
theorem solved {t : TP} {p : LP} {o : Sol} {w : PV} (ht : t.Tiny) (hp : RdP t p) (hpr : Proves p o) (hf : o.Fits 601) (hw : TextsR o w) : ∃ u, IsTO w u ∧ u.Nums ∧ Acc t u := by
  obtain ⟨u, hu, hk, h⟩ := hw
  have e1 := hp.n
  have e2 := hp.m
  have t1 := ht.n
  have t2 := ht.m
  have rn : Rd [] [] := ⟨rfl, fun i hi => absurd hi (Nat.not_lt_zero i)⟩
  have sn : LShort [] := fun i hi => absurd hi (Nat.not_lt_zero i)
  have nn : ∀ {x : List Rat}, Rd [] x → LFits x 601 := fun h i hi => by rw [h.1] at hi; exact absurd hi (Nat.not_lt_zero i)
  have nums : ∀ {l : List (List UInt8)} {y : List Rat}, Rd l y → LFits y 601 → ∀ x, Rd l x → LFits x 601 := fun h f x hx => by rw [hx.inj h]; exact f
  refine ⟨u, hu, ?_⟩
  rcases h with ⟨k, a1, a2, a3, a4⟩ | ⟨k, a1, a2, a3, a4⟩ | ⟨k, a1, a2, a3, a4⟩
  · rcases hpr with ⟨_, c, d, r, b⟩ | ⟨k', _⟩ | ⟨k', _⟩
    · have l1 := a2.1
      have l2 := a3.1
      have l3 := c.1
      have l4 := d.1
      refine ⟨⟨⟨text_short a1 hf.val, rd_short a2 hf.pt, rd_short a3 hf.du, by rw [a4]; exact sn, by omega, by omega, by rw [a4]; simp⟩, fun x hx => by rw [hx.inj a1]; exact hf.val, nums a2 hf.pt, nums a3 hf.du, fun x hx => by rw [a4] at hx; exact nn hx⟩, p, o, hp, ⟨hk.symm, fun _ => a1, fun h => absurd (hk.trans k) h, a2, a3, by rw [a4, r]; exact rn⟩, .inl ⟨by omega, by omega, by omega, by rw [a4]; rfl⟩, .inl ⟨k, c, d, r, b⟩⟩
    · omega
    · omega
  · rcases hpr with ⟨k', _⟩ | ⟨_, c, d, r1, r2⟩ | ⟨k', _⟩
    · omega
    · have l2 := a3.1
      have l3 := c.1
      refine ⟨⟨⟨by rw [a1]; simp, by rw [a2]; exact sn, rd_short a3 hf.du, by rw [a4]; exact sn, by rw [a2]; simp, by omega, by rw [a4]; simp⟩, fun x hx => by rw [a1] at hx; exact (no_nil hx).elim, fun x hx => by rw [a2] at hx; exact nn hx, nums a3 hf.du, fun x hx => by rw [a4] at hx; exact nn hx⟩, p, ⟨o.kind, 0, o.pt, o.du, o.ray⟩, hp, ⟨hk.symm, fun h => by omega, fun _ => rfl, by rw [a2, r1]; exact rn, a3, by rw [a4, r2]; exact rn⟩, .inr (.inl ⟨by omega, a1, by rw [a2]; rfl, by omega, by rw [a4]; rfl⟩), .inr (.inl ⟨k, c, d, r1, r2⟩)⟩
    · omega
  · rcases hpr with ⟨k', _⟩ | ⟨k', _⟩ | ⟨_, c, r1, r2, r3, r4⟩
    · omega
    · omega
    · have l1 := a2.1
      have l2 := a4.1
      have l3 := c.1
      refine ⟨⟨⟨by rw [a1]; simp, rd_short a2 hf.pt, by rw [a3]; exact sn, rd_short a4 hf.ray, by omega, by rw [a3]; simp, by omega⟩, fun x hx => by rw [a1] at hx; exact (no_nil hx).elim, nums a2 hf.pt, fun x hx => by rw [a3] at hx; exact nn hx, nums a4 hf.ray⟩, p, ⟨o.kind, 0, o.pt, o.du, o.ray⟩, hp, ⟨hk.symm, fun h => by omega, fun _ => rfl, a2, by rw [a3, r1]; exact rn, a4⟩, .inr (.inr ⟨by omega, a1, by omega, by rw [a3]; rfl, by omega⟩), .inr (.inr ⟨k, c, r1, r2, r3, r4⟩)⟩
def lawL (t : TP) (u : TO) : Nat → List (List UInt8)
  | 0 => t.obj ++ u.pt ++ u.du ++ u.ray ++ [u.val]
  | i + 1 => lawL t u i ++ t.rc i ++ [t.rb i]
theorem lawL_mem {t : TP} {u : TO} : ∀ {n i : Nat}, i < n → ∀ l, (l ∈ t.rc i ∨ l = t.rb i) → l ∈ lawL t u n
  | n + 1, i, hi, l, h => by
    rcases Nat.lt_succ_iff_lt_or_eq.1 hi with hi | rfl
    · exact List.mem_append_left _ (List.mem_append_left _ (lawL_mem hi l h))
    · rcases h with h | rfl
      · exact List.mem_append_left _ (List.mem_append_right _ h)
      · exact List.mem_append_right _ (by simp)
theorem lawL_zero {t : TP} {u : TO} : ∀ n, ∀ l ∈ lawL t u 0, l ∈ lawL t u n
  | 0, _, h => h
  | n + 1, l, h => List.mem_append_left _ (List.mem_append_left _ (lawL_zero n l h))
theorem lawL_tiny {t : TP} {u : TO} (h : (lawL t u t.rows.length).any longB = false) (h1 : t.obj.length ≤ 4) (h2 : t.rows.length ≤ 7) (h3 : u.pt.length ≤ 8) (h4 : u.du.length ≤ 8) (h5 : u.ray.length ≤ 8) (h6 : ∀ i, i < t.rows.length → (t.rc i).length ≤ 8) : t.Tiny ∧ u.Tiny := by
  have key : ∀ l ∈ lawL t u t.rows.length, l.length ≤ 20 := fun l hl => by
    have := List.any_eq_false.1 h l hl
    simpa [longB] using this
  have gm : ∀ (L : List (List UInt8)) i, i < L.length → gt L i ∈ L := fun L i hi => by
    unfold gt
    simp only [List.getD, List.getElem?_eq_getElem hi, Option.getD_some]
    exact List.getElem_mem hi
  have k0 : ∀ l, (l ∈ t.obj ∨ l ∈ u.pt ∨ l ∈ u.du ∨ l ∈ u.ray ∨ l = u.val) → l.length ≤ 20 := fun l hl => key l (lawL_zero _ l (by
    simp only [lawL, List.mem_append, List.mem_singleton]
    rcases hl with h | h | h | h | h
    · exact .inl (.inl (.inl (.inl h)))
    · exact .inl (.inl (.inl (.inr h)))
    · exact .inl (.inl (.inr h))
    · exact .inl (.inr h)
    · exact .inr h))
  exact ⟨⟨h1, h2, fun i hi => k0 _ (.inl (gm _ i hi)), h6, fun i hi j hj => key _ (lawL_mem hi _ (.inl (gm _ j hj))), fun i hi => key _ (lawL_mem hi _ (.inr rfl))⟩,
    ⟨k0 _ (.inr (.inr (.inr (.inr rfl)))), fun i hi => k0 _ (.inr (.inl (gm _ i hi))), fun i hi => k0 _ (.inr (.inr (.inl (gm _ i hi)))), fun i hi => k0 _ (.inr (.inr (.inr (.inl (gm _ i hi))))), h3, h4, h5⟩⟩
def knownR : CRel | [], r => r = .bool true | _, _ => False
def lawR : CRel | [_, _], r => r = .bool true | _, _ => False
noncomputable def specsQ : Specs := [(4, knownR), (6, shortLR), (7, solveTR), (8, agreesR), (9, ckR), (10, verR)]
def lwI (t : TP) (u : TO) (vo vr wp wd wr : PV) : Nat → List PV → St → Prop := fun w vs st => ∃ (i k j : Nat) (H : List (Nat × Ent)), vs = [.int .i64 (i : Int), .int .i64 (t.rows.length : Int), .own j 0 (lawL t u i).length, vr, .ptr 0 0 0, .ptr 1 0 0] ∧ i + w = t.rows.length ∧
  (∀ l, l < i → (t.rc l).length ≤ 8) ∧ (lawL t u i).length ≤ 50 + 9 * i ∧ Go.Pi.look H 0 = some ⟨2, [.agg [vo, vr]]⟩ ∧ Go.Pi.look H 1 = some ⟨5, [.agg [.int .i64 u.kind, .str (ba u.val), wp, wd, wr]]⟩ ∧ Go.Pi.look H j = some ⟨1, SS (lawL t u i)⟩ ∧ (∀ q ∈ H, q.1 < k) ∧ 1 < j ∧ j < k ∧ st = ⟨k, H, []⟩
theorem law_ok (lib : ReadLib G) (tl : TextLib G) (kn : Gives prog G 4 [] (knownR [])) (v w : PV) (t : TP) (u : TO) (hv : IsTP v t) (hw : IsTO w u) : Gives prog G 3 [v, w] (lawR [v, w]) := by
  have yes : ∀ {s : St}, outK (lawR [v, w]) (.bool true) s := outK_pure rfl rfl
  have pv := hv.pure
  have pw' := hw.pure
  have hv0 := hv
  have hw0 := hw
  obtain ⟨vo, vr, rfl, h1, h2⟩ := hv
  obtain ⟨c1, c2, c3, c4⟩ := h1.cell
  obtain ⟨d1, d2, d3, d4, d5⟩ := h2.cell
  obtain ⟨wp, wd, wr, rfl, k1, k2, k3⟩ := hw
  obtain ⟨e1, e2, e3, e4⟩ := k1.cell
  obtain ⟨f1, f2, f3, f4⟩ := k2.cell
  obtain ⟨g1, g2, g3, g4⟩ := k3.cell
  have lo := h1.len
  have lr := h2.len
  have l1 := k1.len
  have l2 := k2.len
  have l3 := k3.len
  refine gives (S := specsQ) (by kernel_rfl) (by kernel_rfl) (callW_of ann3 func3 rfl (by kernel_rfl) ?_)
  simp [c1, d1, e1, f1, g1]
  refine callK_pure rfl rfl kn fun r hr => ?_
  simp only [knownR] at hr
  subst hr
  by_cases b1 : t.obj.length ≤ 4
  rotate_left
  · have n1 : (4 : Int) < t.obj.length := by omega
    simp [lo, n1]
    refine callK_pure rfl rfl kn fun r hr => ?_
    simp only [knownR] at hr
    subst hr
    simp []
    exact yes
  have n1 : ¬ (4 : Int) < t.obj.length := by omega
  by_cases b2 : t.rows.length ≤ 7
  rotate_left
  · have n2 : (7 : Int) < t.rows.length := by omega
    simp [lo, lr, n1, n2]
    refine callK_pure rfl rfl kn fun r hr => ?_
    simp only [knownR] at hr
    subst hr
    simp []
    exact yes
  have n2 : ¬ (7 : Int) < t.rows.length := by omega
  by_cases b3 : u.pt.length ≤ 8
  rotate_left
  · have n3 : (8 : Int) < u.pt.length := by omega
    simp [lo, lr, l1, n1, n2, n3]
    refine callK_pure rfl rfl kn fun r hr => ?_
    simp only [knownR] at hr
    subst hr
    simp []
    exact yes
  have n3 : ¬ (8 : Int) < u.pt.length := by omega
  by_cases b4 : u.du.length ≤ 8
  rotate_left
  · have n4 : (8 : Int) < u.du.length := by omega
    simp [lo, lr, l1, l2, n1, n2, n3, n4]
    refine callK_pure rfl rfl kn fun r hr => ?_
    simp only [knownR] at hr
    subst hr
    simp []
    exact yes
  have n4 : ¬ (8 : Int) < u.du.length := by omega
  by_cases b5 : u.ray.length ≤ 8
  rotate_left
  · have n5 : (8 : Int) < u.ray.length := by omega
    simp [lo, lr, l1, l2, l3, n1, n2, n3, n4, n5]
    refine callK_pure rfl rfl kn fun r hr => ?_
    simp only [knownR] at hr
    subst hr
    simp []
    exact yes
  have n5 : ¬ (8 : Int) < u.ray.length := by omega
  simp [c1, e1, f1, g1, lo, lr, l1, l2, l3, n1, n2, n3, n4, n5, buildSliceOp, putParts, repeatP, uniform, PV.pureL, PV.pureB, c2, e2, f2, g2, k1.pure, h1.pure, k2.pure, k3.pure]
  have eL : [t.obj, u.pt, u.du, u.ray, [u.val]].flatten = lawL t u 0 := by simp [lawL]
  have lL : (lawL t u 0).length = t.obj.length + u.pt.length + u.du.length + u.ray.length + 1 := by simp [lawL]; omega
  have cc := concat_own (G := G) (S := specsQ) rfl [vo, wp, wd, wr, .slice [.str (ba u.val)]] [t.obj, u.pt, u.du, u.ray, [u.val]] 47 [(1, (⟨5, [.agg [.int .i64 u.kind, .str (ba u.val), wp, wd, wr]]⟩ : Ent)), (0, ⟨2, [.agg [vo, vr]]⟩)] rfl (fun i hi => by
    match i, hi with
    | 0, _ => exact ⟨_, rfl, h1⟩
    | 1, _ => exact ⟨_, rfl, k1⟩
    | 2, _ => exact ⟨_, rfl, k2⟩
    | 3, _ => exact ⟨_, rfl, k3⟩
    | 4, _ => exact ⟨_, rfl, .inr rfl⟩
    | i + 5, hi => exact absurd hi (by simp)) (by rw [eL]; omega) (by rw [eL]; omega) (by simp)
  rw [eL] at cc
  refine callK_run (by rfl) (cc.mono fun v st h => ?_)
  clear cc
  obtain ⟨j, k, rfl, hj, hjk, rfl⟩ := h
  have nj0 : ¬ j = 0 := by omega
  have nj1 : ¬ j = 1 := by omega
  simp [lr, nj0]
  refine loopK_of (lwI t u vo vr wp wd wr) rfl rfl ?step t.rows.length _ _ ?init
  case init => exact ⟨0, _, j, _, rfl, by omega, fun l h => absurd h (Nat.not_lt_zero l), by omega, by rw [look_cons_ne (by omega)]; rfl, by rw [look_cons_ne (by omega)]; rfl, by rw [look_one_cons], by simp; omega, by omega, by omega, rfl⟩
  case step =>
  rintro w vs st ⟨i, k, j, H, rfl, hiw, hrc, hLn, l0, l1', lj, hlt, hj1, hjk, rfl⟩
  rcases Nat.eq_zero_or_pos w with h3 | h3
  · have hi : i = t.rows.length := by omega
    subst hi
    have rf : ∀ (n : Nat) (L : List (List UInt8)), Go.Pi.look H j = some ⟨1, SS L⟩ → L.length = n → reifyL (Go.Pi.look H) [.own j 0 n] = some ([.slice (SS L)], [j]) := fun n L h hn => by
      simp only [reifyL, mapR, reify_SS h hn]
      rfl
    simp []
    refine callK_spec rfl (rf _ _ lj rfl) (shortL_ok _ (lawL t u t.rows.length) (.inr rfl) (by omega)) fun r hr => ?_
    simp only [shortLR, sl_eq (show IsSL (.slice (SS (lawL t u t.rows.length))) _ from .inr rfl)] at hr
    subst hr
    cases hb : (lawL t u t.rows.length).any longB with
    | true =>
      simp [thaw, PV.bareB]
      exact yes
    | false =>
      obtain ⟨ht, hu⟩ := lawL_tiny hb b1 b2 b3 b4 b5 hrc
      simp [thaw, PV.bareB, l0]
      refine callK_pure rfl (by simp [PV.pureL, pv]) (Solve_ok lib tl _ t hv0 ht) fun r hr => ?_
      simp only [solveTR, tp_eq hv0] at hr
      have hvf := fun (r : PV) => (show verR [.agg [vo, vr], .agg [.int .i64 u.kind, .str (ba u.val), wp, wd, wr]] r = VerT t u r by simp only [verR, tp_eq hv0, to_eq hw0])
      have hcf := fun (r : PV) => (show ckR [.agg [vo, vr], .agg [.int .i64 u.kind, .str (ba u.val), wp, wd, wr]] r = (r = .int .i64 (accN t u)) by simp only [ckR, tp_eq hv0, to_eq hw0])
      have nums : u.Nums := ⟨hu.short, fun x hx => (fit_text hx hu.val).mono (by omega), fun x hx i hi => (fit_text (hx.2 i (by rw [← hx.1]; exact hi)) (hu.pt i (by rw [← hx.1]; exact hi))).mono (by omega), fun x hx i hi => (fit_text (hx.2 i (by rw [← hx.1]; exact hi)) (hu.du i (by rw [← hx.1]; exact hi))).mono (by omega), fun x hx i hi => (fit_text (hx.2 i (by rw [← hx.1]; exact hi)) (hu.ray i (by rw [← hx.1]; exact hi))).mono (by omega)⟩
      have agr : ∀ e : Int, (e = 0 ↔ Acc t u) → ((accN t u == 0 && e == 0) || (accN t u == 27 && e != 0)) = true := fun e he => by
        by_cases h : Acc t u
        · rw [accN_yes h, he.2 h]; rfl
        · have : ¬ e = 0 := fun h' => h (he.1 h')
          rw [accN_no h]; simpa using this
      rcases hr with ⟨p, o, w2, hp, hpr, hf, hw2, rfl⟩ | ⟨hno, e, he, rfl⟩
      · obtain ⟨u2, hu2, nu2, ac2⟩ := solved ht hp hpr hf hw2
        have pw2 := hu2.pure
        have hu20 := hu2
        obtain ⟨xp, xd, xr, rfl, m1, m2, m3⟩ := hu2
        obtain ⟨i1, i2, i3, i4⟩ := m1.cell
        obtain ⟨j1', j2', j3', j4'⟩ := m2.cell
        obtain ⟨o1, o2, o3, o4⟩ := m3.cell
        simp [i1, j1', o1]
        have n80 : ¬ k + 1 + 1 + 1 + 1 + 1 + 1 + 1 + 1 + 1 = 0 := by omega
        have n81 : ¬ k + 1 + 1 + 1 + 1 + 1 + 1 + 1 + 1 + 1 = 1 := by omega
        simp [run_draw, l0, l1']
        refine dcallK_pure rfl (by simp only [PV.pureL, pv, pw', Bool.true_and]) (Program_ok lib _ _ t u hv0 hw0 ht nums) fun r hr => ?_
        rw [hcf] at hr
        subst hr
        simp [l0, l1']
        refine dcallK_pure rfl (by simp only [PV.pureL, pv, pw', Bool.true_and]) (Verify_ok lib _ _ t u hv0 hw0 ht hu) fun r hr => ?_
        rw [hvf] at hr
        obtain ⟨e9, rfl, he9⟩ := hr
        simp []
        refine dcallK_pure rfl rfl (agrees_ok _ _) fun r hr => ?_
        simp only [agreesR, agr e9 he9] at hr
        subst hr
        simp [l0]
        refine dcallK_pure rfl (by simp only [PV.pureL, pv, pw2, Bool.true_and]) (Program_ok lib _ _ t u2 hv0 hu20 ht nu2) fun r hr => ?_
        simp only [ckR, tp_eq hv0, to_eq hu20, accN_yes ac2] at hr
        subst hr
        simp []
        exact ⟨logOk_free (by simp [okTri, tri]), yes⟩
      · have he1 : (e != 0) = true := by simpa using he
        simp [zeroTO]
        have n80 : ¬ k + 1 + 1 + 1 + 1 + 1 + 1 + 1 + 1 + 1 = 0 := by omega
        have n81 : ¬ k + 1 + 1 + 1 + 1 + 1 + 1 + 1 + 1 + 1 = 1 := by omega
        simp [run_draw, l0, l1']
        refine dcallK_pure rfl (by simp only [PV.pureL, pv, pw', Bool.true_and]) (Program_ok lib _ _ t u hv0 hw0 ht nums) fun r hr => ?_
        rw [hcf] at hr
        subst hr
        simp [l0, l1']
        refine dcallK_pure rfl (by simp only [PV.pureL, pv, pw', Bool.true_and]) (Verify_ok lib _ _ t u hv0 hw0 ht hu) fun r hr => ?_
        rw [hvf] at hr
        obtain ⟨e9, rfl, he9⟩ := hr
        simp []
        refine dcallK_pure rfl rfl (agrees_ok _ _) fun r hr => ?_
        simp only [agreesR, agr e9 he9] at hr
        subst hr
        simp [he1]
        exact ⟨logOk_free (by simp [okTri, tri]), yes⟩
  · have hi : i < t.rows.length := by omega
    have hii : (i : Int) < t.rows.length := by omega
    have wi : IntKind.i64.wrap ((i : Int) + 1) = ((i + 1 : Nat) : Int) := w_i64 (by omega)
    obtain ⟨es, rfl, esl, hes⟩ : ∃ es, vr = .slice es ∧ es.length = t.rows.length ∧ ∀ i, i < t.rows.length → ∃ w, es[i]? = some (.agg [w, .str (ba (t.rb i))]) ∧ IsSL w (t.rc i) := by
      rcases h2 with ⟨_, h⟩ | h
      · rw [h] at hi; simp at hi
      · exact h
    obtain ⟨rw_, q1, q2⟩ := hes i hi
    obtain ⟨r1, r2, r3, r4⟩ := q2.cell
    have q1' := getE q1
    have lsl : lenPV (.slice es) = some t.rows.length := by simp [lenPV, esl]
    have lrw := q2.len
    by_cases b6 : (t.rc i).length ≤ 8
    rotate_left
    · have n6 : (8 : Int) < (t.rc i).length := by omega
      simp [esl, hii, hi, q1', r1, lrw, n6]
      exact yes
    · have n6 : ¬ (8 : Int) < (t.rc i).length := by omega
      simp [esl, hii, hi, q1', r1, lrw, n6]
      obtain ⟨L, hL⟩ : ∃ L, L = lawL t u i := ⟨_, rfl⟩
      obtain ⟨C, hC⟩ : ∃ C, C = t.rc i := ⟨_, rfl⟩
      have eS : lawL t u (i + 1) = L ++ C ++ [t.rb i] := by rw [hL, hC]; rfl
      rw [← hL] at lj hLn
      rw [← hL, ← hC]
      rw [← hC] at b6 q2
      have sL := SS_len L
      have sC := SS_len C
      have uC := uni_SS C
      have eC := q2.elems
      have el1 : ∀ (hp : Nat → Option Ent) (es : List PV), Go.Pi.elems hp (.slice es) = some es := fun _ _ => rfl
      have tk : (SS L).take L.length = SS L := List.take_of_length_le (by omega)
      have dk : (SS L).drop L.length = [] := List.drop_of_length_le (by omega)
      have m1 : (2 * (L.length + C.length) + 1000) * 16 ≤ 140737488355328 := by omega
      have m3 : (2 * (L.length + C.length + 1) + 1000) * 16 ≤ 140737488355328 := by omega
      obtain ⟨q, hq⟩ : ∃ q, q = k + 1 + 1 + 1 := ⟨_, rfl⟩
      rw [← hq]
      have nqj : ¬ q = j := by omega
      have njq : ¬ j = q := by omega
      have njq1 : ¬ q + 1 = j := by omega
      have njq2 : ¬ j = q + 1 := by omega
      have p9 : ¬ q + 1 + 1 + 1 + 1 + 1 + 1 + 1 + 1 + 1 = q := by omega
      have p9j : ¬ q + 1 + 1 + 1 + 1 + 1 + 1 + 1 + 1 + 1 = j := by omega
      have p9q : ¬ q = q + 1 + 1 + 1 + 1 + 1 + 1 + 1 + 1 + 1 := by omega
      have p9k : ¬ j = q + 1 + 1 + 1 + 1 + 1 + 1 + 1 + 1 + 1 := by omega
      have u1 : uniform 1 [PV.str (ba (t.rb i))] = true := rfl
      have lus : ∀ E, Go.Pi.look (Go.Pi.upd H j E) j = some E := fun E => look_upd_same lj
      rcases Nat.eq_zero_or_pos C.length with z0 | z0
      · obtain rfl : C = [] := List.eq_nil_of_length_eq_zero z0
        have e0 : SS [] = [] := rfl
        have m2 : ¬ L.length + 1 ≤ L.length := by omega
        have m4 : (2 * (L.length + 1) + 1000) * 16 ≤ 140737488355328 := by omega
        have m5 : (2 * L.length + 1000) * 16 ≤ 140737488355328 := by omega
        simp [run_draw, r4, lus, del, lj, nqj, appendOp, appended, eC, e0, sL, tk, dk, m2, m4, m5, buildSliceOp, putParts, repeatP, uniform, PV.pureL, PV.pureB, el1]
        have p13 : ¬ q + 1 + 1 + 1 + 1 + 1 + 1 + 1 + 1 + 1 + 1 + 1 + 1 + 1 = j := by omega
        refine ⟨logOk_code (fun x => if x = j then 0 else 1) (by simp only [List.map_cons, List.map_nil, code, if_true, if_neg nqj, if_neg p13]; decide +kernel), w - 1, by omega, i + 1, _, q + 1 + 1 + 1 + 1 + 1 + 1 + 1 + 1 + 1 + 1 + 1 + 1 + 1, _, by rw [wi, eS]; simp, by omega, fun l hl => ?_, by rw [eS]; simp; omega, ?_, ?_, ?_, ?_, ?_, ?_, rfl⟩
        · rcases lt_succ_cases hl with h4 | rfl
          · exact hrc l h4
          · rw [← hC]; exact b6
        · rw [look_cons_ne (by omega), look_cons_ne (by omega), look_del_ne (by omega), look_upd_ne (by omega)]; exact l0
        · rw [look_cons_ne (by omega), look_cons_ne (by omega), look_del_ne (by omega), look_upd_ne (by omega)]; exact l1'
        · rw [look_one_cons, eS]; simp [SS]
        · exact cons_lt (cons_lt (m := q + 1) (del_lt (upd_lt hlt)) (by omega) (by omega)) (by omega) (by omega)
        · omega
        · omega
      · have m2 : ¬ L.length + C.length ≤ L.length := by omega
        have m6 : ¬ L.length + C.length + 1 ≤ L.length + C.length := by omega
        simp [run_draw, r4, u1, del, p9, p9q, lj, nqj, appendOp, appended, eC, sL, sC, tk, m1, m2, m3, m6, uC, buildSliceOp, putParts, repeatP, PV.pureL, PV.pureB, el1]
        have p13 : ¬ q + 1 + 1 + 1 + 1 + 1 + 1 + 1 + 1 + 1 + 1 + 1 + 1 + 1 = q := by omega
        refine ⟨logOk_code (fun x => if x = q then 0 else 1) (by simp only [List.map_cons, List.map_nil, code, if_true, if_neg njq, if_neg p13, if_neg p9]; decide +kernel), w - 1, by omega, i + 1, _, q + 1 + 1 + 1 + 1 + 1 + 1 + 1 + 1 + 1 + 1 + 1 + 1 + 1, _, by rw [wi, eS]; simp [Nat.add_assoc], by omega, fun l hl => ?_, by rw [eS]; simp; omega, ?_, ?_, ?_, ?_, ?_, ?_, rfl⟩
        · rcases lt_succ_cases hl with h4 | rfl
          · exact hrc l h4
          · rw [← hC]; exact b6
        · rw [look_cons_ne (by omega), look_cons_ne (by omega), look_del_ne (by omega), look_del_ne (by omega)]; exact l0
        · rw [look_cons_ne (by omega), look_cons_ne (by omega), look_del_ne (by omega), look_del_ne (by omega)]; exact l1'
        · rw [look_one_cons, eS]; simp [SS]
        · exact cons_lt (cons_lt (m := q + 1) (del_lt (del_lt hlt)) (by omega) (by omega)) (by omega) (by omega)
        · omega
        · omega
end Go.Proofs.Tryz
