/- The machine on symbols: texts of numbers, read and printed. No condition. -/
import Derived.Test.YtijdeokebjoboaaGreatDoorW1
import Derived.Test.YtijdeokebjoboaaGreatDoorA5
import Derived.Test.YtijdeokebjoboaaGreatDoorN1
import Derived.Test.YtijdeokebjoboaaGreatDoorW2
import Derived.Test.YtijdeokebjoboaaGreatDoorW4
import Derived.Test.YtijdeokebjoboaaGreatDoorW5
import Derived.Test.YtijdeokebjoboaaGreatDoorW3
import Derived.Test.YtijdeokebjoboaaGreatDoorW7
set_option linter.unusedVariables false
set_option linter.unusedSimpArgs false
set_option linter.unusedSectionVars false
set_option linter.unnecessarySimpa false
set_option maxHeartbeats 4000000
set_option maxRecDepth 100000
namespace Go.Proofs.Tryz
open Go Go.Pi Go.Num
variable [Hole] {G : Nat → Option PV}
def ba (l : List UInt8) : ByteArray := ⟨l.toArray⟩
theorem ba_list (l : List UInt8) : (ba l).data.toList = l := rfl
theorem ba_size (l : List UInt8) : (ba l).size = l.length := rfl
theorem ba_of (s : ByteArray) : s = ba s.data.toList := by cases s; rfl
theorem ba_inj {a b : List UInt8} (h : ba a = ba b) : a = b := by rw [← ba_list a, h, ba_list]
theorem bstr_ba (l : List UInt8) : bstr l = .str (ba l) := rfl
theorem ba_append (a b : List UInt8) : ba a ++ ba b = ba (a ++ b) := by
  apply ByteArray.ext
  apply Array.ext'
  simp [ba]
theorem sb_add (a b : List UInt8) : strBin .add (ba a) (ba b) = bif Nat.ble (a.length + b.length) 9223372036854775807 then some (.str (ba (a ++ b))) else none := by
  simp only [strBin, ba_size, ba_append]
theorem sb_eql (a b : List UInt8) : strBin .eql (ba a) (ba b) = some (.bool (decide (a = b))) := by
  simp only [strBin, ByteArray.toList_eq, ba_list]
  by_cases h : a = b <;> simp [h]
theorem sb_neq (a b : List UInt8) : strBin .neq (ba a) (ba b) = some (.bool (!decide (a = b))) := by
  simp only [strBin, ByteArray.toList_eq, ba_list]
  by_cases h : a = b <;> simp [h]
theorem extract_ba (l : List UInt8) (a b : Nat) : (ba l).extract a b = ba ((l.drop a).take (b - a)) := by
  have h : ((ba l).extract a b).data.toList = (l.drop a).take (b - a) := by simp [ByteArray.data_extract, ba]
  rw [ba_of ((ba l).extract a b), h]
theorem c48 : (⟨#[48]⟩ : ByteArray) = ba [48] := rfl
theorem c45 : (⟨#[45]⟩ : ByteArray) = ba [45] := rfl
theorem c47 : (⟨#[47]⟩ : ByteArray) = ba [47] := rfl
theorem c0 : (⟨#[]⟩ : ByteArray) = ba [] := rfl
def SS (L : List (List UInt8)) : List PV := L.map fun l => .str (ba l)
theorem SS_len (L : List (List UInt8)) : (SS L).length = L.length := by simp [SS]
theorem SS_get {L : List (List UInt8)} {i : Nat} (h : i < L.length) : (SS L)[i]? = some (.str (ba L[i])) := by simp [SS, h]
theorem SS_set (L : List (List UInt8)) (i : Nat) (l : List UInt8) : (SS L).set i (.str (ba l)) = SS (L.set i l) := by simp [SS, List.map_set]
theorem SS_pure (L : List (List UInt8)) : PV.pureL (SS L) = true := by
  induction L with
  | nil => rfl
  | cons d ds ih => simpa [SS, PV.pureL, PV.pureB] using ih
def Half (L L' : List (List UInt8)) (i : Nat) : Prop := L'.length = L.length ∧ ∀ x, x < L.length → L'[x]? = if x < i ∨ L.length ≤ x + i then L[L.length - 1 - x]? else L[x]?
theorem Half.done {L L' : List (List UInt8)} {i : Nat} (h : Half L L' i) (hi : L.length ≤ 2 * i + 1) : L' = L.reverse := by
  refine List.ext_getElem? fun x => ?_
  by_cases hx : x < L.length
  · rw [h.2 x hx, List.getElem?_reverse hx]
    split
    · rfl
    · rename_i hn
      have : L.length - 1 - x = x := by omega
      rw [this]
  · rw [List.getElem?_eq_none (by have := h.1; omega), List.getElem?_eq_none (by simp; omega)]
theorem Half.step {L L' : List (List UInt8)} {i : Nat} (h : Half L L' i) (hi : 2 * i + 1 < L.length) (h1 : i < L'.length) (h2 : L.length - 1 - i < L'.length) : Half L ((L'.set i L'[L.length - 1 - i]).set (L.length - 1 - i) L'[i]) (i + 1) := by
  refine ⟨by simp [h.1], fun x hx => ?_⟩
  have g1 : L'[L.length - 1 - i]? = L[L.length - 1 - i]? := by rw [h.2 _ (by omega), if_neg (by omega)]
  have g2 : L'[i]? = L[i]? := by rw [h.2 _ (by omega), if_neg (by omega)]
  have e1 : some L'[L.length - 1 - i] = L[L.length - 1 - i]? := by rw [← g1]; simp
  have e2 : some L'[i] = L[i]? := by rw [← g2]; simp
  by_cases a : x = L.length - 1 - i
  · rw [a, List.getElem?_set_self (by simp; omega), e2, if_pos (by omega)]
    congr 1; omega
  · rw [List.getElem?_set_ne (fun e => a e.symm)]
    by_cases b : x = i
    · rw [b, List.getElem?_set_self (by omega), e1, if_pos (by omega)]
    · rw [List.getElem?_set_ne (fun e => b e.symm), h.2 x hx]
      by_cases c : x < i ∨ L.length ≤ x + i
      · rw [if_pos c, if_pos (by omega)]
      · rw [if_neg c, if_neg (by omega)]
def revI (L : List (List UInt8)) (j k0 : Nat) (H : List (Nat × Ent)) (Z : List Nat) : Nat → List PV → St → Prop := fun w vs st => ∃ (i : Nat) (k : Nat) (L' : List (List UInt8)) (Hk : List (Nat × Ent)), vs = [.int .i64 (i : Int), .int .i64 ((L.length : Int) - 1 - i), .own j 0 L.length] ∧ i + w = L.length ∧ Half L L' i ∧
  k0 ≤ k ∧ Go.Pi.look Hk j = some ⟨1, SS L'⟩ ∧ (∀ e, upd Hk j e = upd H j e) ∧ st = ⟨k, Hk, Z⟩
theorem reverse_own {S : Specs} (L : List (List UInt8)) (j k0 : Nat) (H : List (Nat × Ent)) (Z : List Nat) (hj : Go.Pi.look H j = some ⟨1, SS L⟩) (hZ : memB Z j = false) (hn : L.length < 1000000) :
    CallW prog (specEnv prog G S) G A1 124 [.own j 0 L.length] ⟨k0, H, Z⟩ (fun _ st => ∃ k, k0 ≤ k ∧ st = ⟨k, upd H j ⟨1, SS L.reverse⟩, Z⟩) := by
  refine callW_of ann124 func124 rfl (by kernel_rfl) ?_
  have w1 : IntKind.i64.wrap ((L.length : Int) - 1) = (L.length : Int) - 1 := w_i64 (by omega)
  simp [lenPV, w1]
  refine loopK_of (revI L j k0 H Z) rfl rfl ?step L.length _ _ ?init
  case init => exact ⟨0, _, L, H, by simp [], by omega, ⟨rfl, fun x hx => by rw [if_neg (by omega)]⟩, by omega, hj, fun _ => rfl, rfl⟩
  case step =>
  rintro w vs st ⟨i, k, L', Hk, rfl, hiw, hh, hk, hl, hu, rfl⟩
  by_cases hc : (i : Int) < (L.length : Int) - 1 - i
  · have wi : IntKind.i64.wrap ((i : Int) + 1) = ((i + 1 : Nat) : Int) := w_i64 (by omega)
    have wl : IntKind.i64.wrap ((L.length : Int) - 1 - i - 1) = (L.length : Int) - 1 - ((i + 1 : Nat) : Int) := by rw [show (L.length : Int) - 1 - i - 1 = (L.length : Int) - 1 - ((i + 1 : Nat) : Int) by omega]; exact w_i64 (by omega)
    have el : (L.length : Int) - 1 - i = ((L.length - 1 - i : Nat) : Int) := by omega
    obtain ⟨q, hq⟩ : ∃ q, q = L.length - 1 - i := ⟨_, rfl⟩
    rw [el, ← hq] at wl hc ⊢
    have l1 := hh.1
    have g1 : (SS L')[q]? = _ := SS_get (L := L') (i := q) (by omega)
    have g2 : (SS L')[i]? = _ := SS_get (L := L') (i := i) (by omega)
    have hst := hh.step (by omega) (by omega) (by omega)
    have i1 : i < L.length := by omega
    have q1 : q < L.length := by omega
    have lus : ∀ E, Go.Pi.look (Go.Pi.upd Hk j E) j = some E := fun E => look_upd_same hl
    have g1' := getE g1
    have g2' := getE g2
    have g3 : (SS (L'.set i L'[q]))[q]? = _ := SS_get (L := L'.set i L'[q]) (i := q) (by simp; omega)
    have g3' := getE g3
    have n1 : (SS L').length = L.length := by rw [SS_len, l1]
    simp [run_draw, hc, hl, hZ, g1', g2', g3', cells_str, i1, q1, lus, SS_set, wi, wl, n1, upd_upd, SS_len, l1]
    refine ⟨logOk_free (by simp only [List.map_cons, List.map_nil, tri, List.isEmpty_nil, List.isEmpty_cons]; decide +kernel), w - 1, by omega, i + 1, _, _, _, by simp, by omega, ?_, by omega, look_upd_same hl, fun e => by rw [upd_upd, hu], rfl⟩
    subst hq
    exact hst
  · simp [hc]
    refine ⟨_, by omega, rfl, ?_⟩
    rw [← hh.done (by omega), ← hu, upd_self hl]
def strR (l : List UInt8) : PV → Prop := fun r => r = .str (ba l)
noncomputable def bytesOf : PV → List UInt8 | .str s => s.data.toList | _ => []
noncomputable def bytesOfL : PV → List (List UInt8) | .slice es => es.map bytesOf | _ => []
theorem bytesOf_SS (L : List (List UInt8)) : bytesOfL (.slice (SS L)) = L := by
  simp only [bytesOfL, SS, List.map_map]
  induction L with
  | nil => rfl
  | cons a L ih => simp only [List.map_cons, ih]; rfl
noncomputable def itoaR : CRel | [.int _ n], r => strR (Lib.decDigits n.toNat) r | _, _ => False
noncomputable def repeatR : CRel | [.str s, .int _ n], r => strR (Lib.repeatL s.data.toList n.toNat) r | _, _ => False
noncomputable def joinR : CRel | [v, .str s], r => strR (Lib.join (bytesOfL v) s.data.toList) r | _, _ => False
structure TextLib (G : Nat → Option PV) : Prop where
  itoa : ∀ n : Int, 0 ≤ n → n < 4294967296 → Gives prog G 122 [.int .i64 n] (itoaR [.int .i64 n])
  rep : ∀ n : Nat, n ≤ 9 → Gives prog G 123 [.str (ba [48]), .int .i64 n] (repeatR [.str (ba [48]), .int .i64 n])
  join : ∀ L : List (List UInt8), L.length ≤ 100000 → (∀ l ∈ L, l.length ≤ 9) → Gives prog G 125 [.slice (SS L), .str (ba [])] (joinR [.slice (SS L), .str (ba [])])
def textR : CRel | [v], r => ∃ l, r = .str (ba l) ∧ IntText l (it v) | _, _ => False
def IsGs (gv : PV) (H : List (Nat × Ent)) (j n0 : Nat) (gs : List (List UInt8)) : Prop := (gv = .nil ∧ gs = []) ∨ (gv = .own j 0 gs.length ∧ gs ≠ [] ∧ n0 ≤ j ∧ Go.Pi.look H j = some ⟨1, SS gs.reverse⟩)
def textI (b : Bool) (m : PV) (V W : Nat) : Nat → List PV → St → Prop := fun w vs st => ∃ (mv gv : PV) (ds : List Int) (gs : List (List UInt8)) (k j : Nat) (H : List (Nat × Ent)), vs = [mv, gv, .ptr 0 0 0] ∧ IsMag mv ds ∧ Norm ds ∧ ds.length < 100000 ∧
  TextInv V (val ds).toNat gs ∧ (val ds).toNat < 1000000000 ^ w ∧ gs.length + w = W ∧ IsGs gv H j 1 gs ∧ Go.Pi.look H 0 = some ⟨2, [.agg [.bool b, m]]⟩ ∧ (∀ q ∈ H, q.1 < k) ∧ 0 < k ∧ j < k ∧ st = ⟨k, H, []⟩
theorem pw_ten : ∀ n : Nat, pw n ≤ ((1000000000 ^ (2 * n) : Nat) : Int)
  | 0 => by simp [pw]
  | n + 1 => by
    have ih := pw_ten n
    have e : pw (n + 1) = 4294967296 * pw n := rfl
    have e2 : 1000000000 ^ (2 * (n + 1)) = 1000000000 ^ (2 * n) * 1000000000000000000 := by
      rw [show 2 * (n + 1) = 2 * n + 2 by omega, Nat.pow_add]
    obtain ⟨Y, hY⟩ : ∃ Y : Nat, Y = 1000000000 ^ (2 * n) := ⟨_, rfl⟩
    rw [e, e2, ← hY]
    rw [← hY] at ih
    omega
theorem div_lt_pow {v w : Nat} (h : v < 1000000000 ^ (w + 1)) : v / 1000000000 < 1000000000 ^ w := by
  rw [Nat.pow_succ] at h
  exact (Nat.div_lt_iff_lt_mul (by decide)).2 h
theorem SS_snoc (L : List (List UInt8)) (l : List UInt8) : SS L ++ [.str (ba l)] = SS (L ++ [l]) := by simp [SS]
theorem reify_SS {hp : Nat → Option Ent} {r n : Nat} {L : List (List UInt8)} (h : hp r = some ⟨1, SS L⟩) (hn : L.length = n) : reify hp (.own r 0 n) = some (.slice (SS L), [r]) := by
  unfold reify
  rw [show (PV.own r 0 n).pureB = false from rfl]
  exact reifyW_own h (by rw [SS_len, hn]) (by decide) fun v hv => by
    simp only [SS, List.mem_map] at hv
    obtain ⟨l, _, rfl⟩ := hv
    rfl
theorem reifyL_SS {hp : Nat → Option Ent} {r n : Nat} {L : List (List UInt8)} {s : ByteArray} (h : hp r = some ⟨1, SS L⟩) (hn : L.length = n) : reifyL hp [.own r 0 n, .str s] = some ([.slice (SS L), .str s], [r]) := by
  simp only [reifyL, mapR, reify_SS h hn, reify_pure (show (PV.str s).pureB = true from rfl)]
  rfl
theorem flat_len : ∀ {gs : List (List UInt8)}, (∀ g ∈ gs, g.length ≤ 9) → gs.flatten.length ≤ 9 * gs.length
  | [], _ => by simp
  | g :: gs, h => by
    have := flat_len (gs := gs) fun x hx => h x (List.mem_cons_of_mem _ hx)
    have := h g (List.mem_cons_self ..)
    rw [List.flatten_cons, List.length_append, List.length_cons]; omega
theorem text_ok (lib : TextLib G) (v : PV) (z : Int) (hv : IsInt v z) (fz : Fits z 2000) : Gives prog G 92 [v] (textR [v]) := by
  have hfe : textR [v] = fun r => ∃ l, r = .str (ba l) ∧ IntText l z := by funext r; simp only [textR, it_eq hv]
  rw [hfe]
  obtain ⟨b, m, ds, rfl, hc⟩ := hv
  have h1 := hc.mag.len
  have hl := hc.len fz
  obtain ⟨W, hW, hlt0⟩ : ∃ W : Nat, W ≤ 4000 ∧ z.natAbs < 1000000000 ^ W := ⟨2 * 2000, by omega, Int.ofNat_lt.1 (Int.lt_of_lt_of_le fz (pw_ten 2000))⟩
  refine gives (S := [(121, shortR), (122, itoaR), (123, repeatR), (125, joinR)]) (by kernel_rfl) (by kernel_rfl) (callW_of ann92 func92 rfl (by kernel_rfl) ?_)
  by_cases h0 : ds = []
  · have hz0 := hc.zero_iff.2 h0
    have hl0 : ((ds.length : Int) == 0) = true := by rw [h0]; rfl
    simp [h1, hl0, hc.mag.cellOk, c48]
    exact outK_pure rfl ⟨_, rfl, .inl ⟨by omega, by rw [hz0]; exact DecText.zero⟩⟩
  · have hp : 0 < ds.length := List.length_pos_iff.2 h0
    have hl0 : ((ds.length : Int) == 0) = false := by simp only [beq_eq_false_iff_ne, ne_eq]; omega
    have vz : (val ds).toNat = z.natAbs := by
      have := val_nonneg hc.norm.dig
      have hz := hc.val
      cases b <;> simp at hz <;> omega
    have vp : 0 < z.natAbs := by
      have : z ≠ 0 := fun e => h0 (hc.zero_iff.1 e)
      omega
    simp [h1, hl0, hc.mag.cellOk]
    refine loopK_of (textI b m z.natAbs W) rfl rfl ?step W _ _ ?init
    case init => exact ⟨_, _, ds, [], _, 0, _, rfl, hc.mag, hc.norm, by omega, by rw [vz]; exact TextInv.start _, by rw [vz]; exact hlt0, by simp, .inl ⟨rfl, rfl⟩, rfl, by simp, by omega, by omega, rfl⟩
    case step =>
    rintro w vs st ⟨mv, gv, es, gs, k, j, H, rfl, hm, hn, hk1, inv, hlt, hw, hg, l0, hlk, hk, hj, rfl⟩
    have hml := hm.len
    rcases Nat.eq_zero_or_pos es.length with e0 | e0
    · have e1 : ((es.length : Int) > 0) = False := by simp [e0]
      have ez : es = [] := List.eq_nil_of_length_eq_zero e0
      subst ez
      simp [hml, e0]
      have hd : DecText gs.flatten z.natAbs := by
        rcases inv.fin rfl with h | h
        · omega
        · exact h
      rcases hg with ⟨_, rfl⟩ | ⟨rfl, hne, hj0, lj⟩
      · exact absurd rfl hd.ne
      have jn : ¬ j = 0 := by omega
      have n0j : ¬ 0 = j := by omega
      have rv := reverse_own (G := G) (S := [(121, shortR), (122, itoaR), (123, repeatR), (125, joinR)]) gs.reverse j (k + 1 + 1 + 1 + 1) H [] lj rfl (by simp; omega)
      rw [List.length_reverse, List.reverse_reverse] at rv
      refine callK_run (by rfl) (rv.mono fun v st h => ?_)
      obtain ⟨k2, hk2, rfl⟩ := h
      have lj2 : Go.Pi.look (Go.Pi.upd H j ⟨1, SS gs⟩) j = some ⟨1, SS gs⟩ := look_upd_same lj
      have l02 : Go.Pi.look (Go.Pi.upd H j ⟨1, SS gs⟩) 0 = some ⟨2, [.agg [.bool b, m]]⟩ := by rw [look_upd_ne jn]; exact l0
      simp []
      refine callK_own (fr := [j]) rfl ?_ (lib.join gs (by omega) inv.len) fun r z hr hz => ?_
      · exact reifyL_SS lj2 rfl
      simp only [joinR, strR, bytesOf_SS, ba_list, join_nil] at hr
      subst hr
      have fl := flat_len inv.len
      obtain ⟨F, hF⟩ : ∃ F, F = gs.flatten := ⟨_, rfl⟩
      rw [← hF] at fl hd ⊢
      have z0 : memB z 0 = false := hz 0 rfl (by simp [memB, beq_lit, jn])
      cases b with
      | false =>
        simp [l02]
        have hz1 := hc.neg_iff
        simp at hz1
        exact outK_pure rfl ⟨_, rfl, .inl ⟨hz1, hd⟩⟩
      | true =>
        have hz1 := hc.neg_iff
        simp at hz1
        have f1 : 1 + F.length ≤ 9223372036854775807 := by omega
        have ad : strBin .add (ba [45]) (ba F) = some (.str (ba (45 :: F))) := by
          rw [sb_add]
          simp [f1, ble_lit]
        simp [l02, c45, ad]
        exact outK_pure rfl ⟨_, rfl, .inr ⟨hz1, F, rfl, hd⟩⟩
    · have e1 : (0 : Int) < es.length := by omega
      have hd0 := val_nonneg hn.dig
      obtain ⟨V, hV⟩ : ∃ V : Nat, (V : Int) = val es := ⟨(val es).toNat, by omega⟩
      have hVn : (val es).toNat = V := by omega
      have hVp : 0 < V := by
        have := norm_pos hn (fun e => by rw [e] at e0; simp at e0)
        omega
      rw [hVn] at inv hlt
      simp [hml, e0]
      refine callK_pure rfl (by simp [PV.pureL, PV.pureB, hm.pure]) (short_ok mv es 1000000000 hm hn.dig (by omega) (by omega)) fun r hr => ?_
      simp only [shortR, mg_eq hm] at hr
      obtain ⟨qv, qs, rfl, hq, hqn, hqv⟩ := hr
      obtain ⟨t, ht, htv⟩ : ∃ t : Nat, val es % 1000000000 = (t : Int) ∧ t = V % 1000000000 := ⟨V % 1000000000, by omega, rfl⟩
      have hqV : (val qs).toNat = V / 1000000000 := by omega
      have wt : IntKind.i64.wrap (t : Int) = t := w_i64 (by omega)
      have dt : DecText (Lib.decDigits t) t := decText_digits t
      rw [ht]
      simp [wt]
      refine callK_pure rfl (by rfl) (lib.itoa t (by omega) (by omega)) fun r hr => ?_
      simp only [itoaR, strR, Int.toNat_natCast] at hr
      subst hr
      obtain ⟨s, hs⟩ : ∃ s, s = Lib.decDigits t := ⟨_, rfl⟩
      rw [← hs] at dt ⊢
      rw [htv] at dt
      have sl := dt.len (show V % 1000000000 < 10 ^ 9 by omega) (by omega)
      have hql := hq.len
      have ws : IntKind.i64.wrap (9 - (s.length : Int)) = ((9 - s.length : Nat) : Int) := by rw [w_i64 (by omega)]; omega
      have lsum : 9 - s.length + s.length ≤ 9223372036854775807 := by omega
      obtain ⟨s2, hs2, inv2⟩ : ∃ s2, s2 = (if qs.length = 0 then s else padTo s) ∧ TextInv z.natAbs (V / 1000000000) (s2 :: gs) := by
        refine ⟨_, rfl, ?_⟩
        by_cases q0 : qs.length = 0
        · rw [if_pos q0]
          have qz : qs = [] := List.eq_nil_of_length_eq_zero q0
          subst qz
          have : V / 1000000000 = 0 := by rw [← hqV]; rfl
          rw [this]
          exact inv.last dt hVp this
        · rw [if_neg q0]
          refine inv.more dt ?_
          have := norm_pos hqn (fun e => q0 (by rw [e]; rfl))
          omega
      have cont : ∀ (gv2 : PV) (k2 j2 : Nat) (H2 : List (Nat × Ent)), IsGs gv2 H2 j2 1 (s2 :: gs) → Go.Pi.look H2 0 = some ⟨2, [.agg [.bool b, m]]⟩ → (∀ q ∈ H2, q.1 < k2) → 0 < k2 → j2 < k2 → ∃ m', m' < w ∧ textI b m z.natAbs W m' [qv, gv2, .ptr 0 0 0] ⟨k2, H2, []⟩ := fun gv2 k2 j2 H2 h1 h2 h3 h4 h5 => by
        rcases Nat.eq_zero_or_pos w with w0 | w0
        · rw [w0] at hlt
          omega
        · refine ⟨w - 1, by omega, qv, gv2, qs, s2 :: gs, k2, j2, H2, rfl, hq, hqn, ?_, by rw [hqV]; exact inv2, ?_, by simp; omega, h1, h2, h3, h4, h5, rfl⟩
          · have : qs.length ≤ es.length := by
              refine norm_len hqn ?_
              have h1 := val_lt hn.dig
              have : val qs ≤ val es := by omega
              omega
            omega
          · rw [hqV]
            refine div_lt_pow ?_
            rw [show w - 1 + 1 = w by omega]
            exact hlt
      by_cases q0 : qs.length = 0
      · rw [if_pos q0] at hs2
        rw [← hs2]
        rcases hg with ⟨rfl, rfl⟩ | ⟨rfl, hne, hj0, lj⟩
        · skip
          simp [hql, q0, buildSliceOp, putParts, repeatP, uniform, PV.pureL, PV.pureB, appendOp, appended, elems, PV.cells]
          exact cont _ _ _ _ (.inr ⟨rfl, by simp, by omega, by rw [look_one_cons]; rfl⟩) (by rw [look_cons_ne (by omega)]; exact l0) (cons_lt hlk (by omega) (by omega)) (by omega) (by omega)
        · have n0j : ¬ 0 = j := by omega
          have m1 : (2 * (gs.length + 1) + 1000) * 16 ≤ 140737488355328 := by omega
          have m2 : ¬ gs.length + 1 ≤ gs.length := by omega
          simp [hql, q0, buildSliceOp, putParts, repeatP, uniform, PV.pureL, PV.pureB, appendOp, appended, elems, PV.cells, lj, SS_len, m1, m2]
          exact cont _ _ _ _ (.inr ⟨rfl, by simp, by omega, by rw [look_one_cons, SS_snoc, List.reverse_cons]⟩) (by rw [look_cons_ne (by omega), look_del_ne n0j]; exact l0) (cons_lt (del_lt hlk) (by omega) (by omega)) (by omega) (by omega)
      · have q1 : 0 < qs.length := by omega
        rw [if_neg q0] at hs2
        simp [hql, ba_size, q1, ws]
        refine callK_pure rfl (by rfl) (lib.rep (9 - s.length) (by omega)) fun r hr => ?_
        simp only [repeatR, strR, Int.toNat_natCast, repeat_zeros] at hr
        subst hr
        have ad : strBin .add (ba (zeros (9 - s.length))) (ba s) = some (.str (ba s2)) := by
          rw [sb_add, hs2]
          simp [zeros, padTo, lsum, ble_lit]
        rcases hg with ⟨rfl, rfl⟩ | ⟨rfl, hne, hj0, lj⟩
        · skip
          simp [ad, buildSliceOp, putParts, repeatP, uniform, PV.pureL, PV.pureB, appendOp, appended, elems, PV.cells]
          exact cont _ _ _ _ (.inr ⟨rfl, by simp, by omega, by rw [look_one_cons]; rfl⟩) (by rw [look_cons_ne (by omega)]; exact l0) (cons_lt hlk (by omega) (by omega)) (by omega) (by omega)
        · have n0j : ¬ 0 = j := by omega
          have m1 : (2 * (gs.length + 1) + 1000) * 16 ≤ 140737488355328 := by omega
          have m2 : ¬ gs.length + 1 ≤ gs.length := by omega
          simp [ad, buildSliceOp, putParts, repeatP, uniform, PV.pureL, PV.pureB, appendOp, appended, elems, PV.cells, lj, SS_len, m1, m2]
          exact cont _ _ _ _ (.inr ⟨rfl, by simp, by omega, by rw [look_one_cons, SS_snoc, List.reverse_cons]⟩) (by rw [look_cons_ne (by omega), look_del_ne n0j]; exact l0) (cons_lt (del_lt hlk) (by omega) (by omega)) (by omega) (by omega)
noncomputable def cutpR : CRel | [.str s, _], r => r = .tuple [.str (ba (unsigned s.data.toList).1), .bool (unsigned s.data.toList).2] | _, _ => False
noncomputable def digfR : CRel | [.str s, _], r => r = .bool (!(s.data.toList.all digB)) | _, _ => False
noncomputable def puintR : CRel | [.str s, _, _], r => r = .tuple [.int .u64 (decVal s.data.toList), .nilIface] | _, _ => False
structure IntLib (G : Nat → Option PV) : Prop where
  cutp : ∀ l : List UInt8, l.length ≤ 100000 → Gives prog G 138 [.str (ba l), .str (ba [45])] (cutpR [.str (ba l), .str (ba [45])])
  digf : ∀ l : List UInt8, l.length ≤ 100000 → l.all digB = true → Gives prog G 139 [.str (ba l), .func 140 []] (digfR [.str (ba l), .func 140 []])
  puint : ∀ l : List UInt8, l ≠ [] → l.length ≤ 9 → l.all digB = true → Gives prog G 141 [.str (ba l), .int .i64 10, .int .i64 32] (puintR [.str (ba l), .int .i64 10, .int .i64 32])
def intZero : PV := .agg [.bool false, .nil]
def ParseP (l : List UInt8) (r : PV) : Prop := (intB l = true ∧ ∃ q, r = .tuple [q, .int .i64 0] ∧ IsInt q (intV l)) ∨ (intB l = false ∧ r = .tuple [intZero, .int .i64 3])
noncomputable def parseR : CRel | [.str s], r => ParseP s.data.toList r | _, _ => False
theorem pw_ge_ten : ∀ n : Nat, ((10 ^ n : Nat) : Int) ≤ pw n
  | 0 => by simp [pw]
  | n + 1 => by
    have ih := pw_ge_ten n
    have e : pw (n + 1) = 4294967296 * pw n := rfl
    have e2 : 10 ^ (n + 1) = 10 ^ n * 10 := Nat.pow_succ ..
    obtain ⟨Y, hY⟩ : ∃ Y : Nat, Y = 10 ^ n := ⟨_, rfl⟩
    rw [e, e2, ← hY]
    rw [← hY] at ih
    omega
theorem small_digits {ms : List Int} {pre : List UInt8} (hn : Norm ms) (hv : val ms = decVal pre) (hd : ∀ b ∈ pre, isDigit b) : ms.length ≤ pre.length := by
  refine norm_len hn ?_
  rw [hv]
  exact Int.lt_of_lt_of_le (Int.ofNat_lt.2 (decVal_lt hd)) (pw_ge_ten _)
def psI (D : List UInt8) (ng : Bool) : Nat → List PV → St → Prop := fun w vs st => ∃ (mv : PV) (ms : List Int) (pre rest : List UInt8) (k : Nat), vs = [.str (ba rest), mv, .bool ng, .ptr 0 0 0] ∧ rest.length = w ∧ D = pre ++ rest ∧ IsMag mv ms ∧ Norm ms ∧ val ms = decVal pre ∧
  0 < k ∧ st = ⟨k, [(0, ⟨2, [intZero]⟩)], []⟩
def psJ (rest : List UInt8) (mv : PV) (n : Nat) (ng : Bool) : Nat → List PV → St → Prop := fun w vs st => ∃ (i k : Nat), vs = [.int .i64 (i : Int), .int .i64 (n : Int), .int .u32 ((10 ^ i : Nat) : Int), .str (ba rest), .int .i64 (n : Int), mv, .bool ng, .ptr 0 0 0] ∧ i + w = n ∧ 0 < k ∧ st = ⟨k, [(0, ⟨2, [intZero]⟩)], []⟩
theorem ten_le {i : Nat} (h : i ≤ 9) : 10 ^ i ≤ 1000000000 := Nat.pow_le_pow_right (n := 10) (by decide) h
theorem index_str0 (c : UInt8) (D : List UInt8) : indexOp prog 9 (.str (ba (c :: D))) (.int .i64 0) = some (.int .u8 (c.toNat : Int)) := by
  simp [indexOp, ba, natOf_0]
theorem badB {c : UInt8} {D : List UInt8} {ng : Bool} (hd : (c :: D).all digB = true) : (!(decide (c = 48) && (decide (1 < (D.length : Int) + 1) || ng))) = (decB (c :: D) && !(ng && decide (c :: D = [48]))) := by
  unfold decB badZero
  rw [hd]
  rcases D with _ | ⟨d, D⟩
  · by_cases hc : c = 48 <;> cases ng <;> simp [hc]
  · have : (0 : Int) < (D.length : Int) + 1 := by omega
    by_cases hc : c = 48 <;> cases ng <;> simp [hc] <;> omega
theorem parse_ok (lib : IntLib G) (l : List UInt8) (hl : l.length ≤ 20000) (hne : (unsigned l).1 ≠ []) (hd : (unsigned l).1.all digB = true) : Gives prog G 99 [.str (ba l)] (parseR [.str (ba l)]) := by
  have hfe : parseR [.str (ba l)] = ParseP l := by funext r; simp only [parseR, ba_list]
  rw [hfe]
  have ul : (unsigned l).1.length ≤ 20000 := by
    rcases l with _ | ⟨b, r⟩
    · simp [unsigned]
    · simp only [unsigned]
      split <;> simp at hl ⊢ <;> omega
  have hi1 : intB l = (decB (unsigned l).1 && !((unsigned l).2 && decide ((unsigned l).1 = [48]))) := rfl
  have hv1 : intV l = sg (unsigned l).2 (decVal (unsigned l).1) := by
    unfold intV sg; rfl
  refine gives (S := [(138, cutpR), (139, digfR), (141, puintR), (142, scaleR), (103, signedR)]) (by kernel_rfl) (by kernel_rfl) (callW_of ann99 func99 rfl (by kernel_rfl) ?_)
  have l1 : ¬ (65536 : Int) < l.length := by omega
  simp [ba_size, l1, c45]
  refine callK_pure rfl (by rfl) (lib.cutp l (by omega)) fun r hr => ?_
  simp only [cutpR, ba_list] at hr
  subst hr
  obtain ⟨D, hD⟩ : ∃ D, D = (unsigned l).1 := ⟨_, rfl⟩
  obtain ⟨ng, hng⟩ : ∃ n, n = (unsigned l).2 := ⟨_, rfl⟩
  rw [← hD] at ul hne hd hi1 hv1 ⊢
  rw [← hng] at hi1 hv1 ⊢
  obtain ⟨c, D', rfl⟩ : ∃ c D', D = c :: D' := by
    rcases D with _ | ⟨c, D'⟩
    · exact absurd rfl hne
    · exact ⟨c, D', rfl⟩
  simp [c0, sb_eql]
  refine callK_pure rfl (by rfl) (lib.digf (c :: D') (by omega) hd) fun r hr => ?_
  simp only [digfR, ba_list, hd, Bool.not_true] at hr
  subst hr
  have ix := index_str0 c D'
  have wr := (badB (c := c) (D := D') (ng := ng) hd).trans hi1.symm
  have fin3 : ∀ {s : St}, intB l = false → outK (ParseP l) (.tuple [.agg [.bool false, .nil], .int .i64 3]) s := fun h => outK_pure rfl (.inr ⟨h, rfl⟩)
  by_cases hbad : (decide (c = 48) && (decide (1 < (D'.length : Int) + 1) || ng)) = true
  · have hi0 : intB l = false := by rw [← wr, hbad]; rfl
    simp only [Bool.and_eq_true, decide_eq_true_eq, Bool.or_eq_true] at hbad
    obtain ⟨hc, hb⟩ := hbad
    have hcn : ((c.toNat : Int) == 48) = true := by rw [hc]; rfl
    by_cases hb2 : decide (1 < (D'.length : Int) + 1) = true
    · simp [ba_size, ix, hcn, hb2]
      exact fin3 hi0
    · have hn1 : ng = true := by
        rcases hb with h | h
        · exact absurd (decide_eq_true h) hb2
        · exact h
      simp [ba_size, ix, hcn, hb2, hn1]
      exact fin3 hi0
  have hi1' : intB l = true := by rw [← wr, (Bool.not_eq_true _).mp hbad]; rfl
  by_cases hc : c = 48
  all_goals
    first
      | have hcn : ((c.toNat : Int) == 48) = true := by rw [hc]; rfl
        have hb2 : decide (1 < (D'.length : Int) + 1) = false := by
          simp only [hc, decide_true, Bool.true_and, Bool.or_eq_true, not_or, Bool.not_eq_true] at hbad
          exact hbad.1
        have hn1 : ng = false := by
          simp only [hc, decide_true, Bool.true_and, Bool.or_eq_true, not_or, Bool.not_eq_true] at hbad
          exact hbad.2
        simp [ba_size, ix, hcn, hb2, hn1]
        refine loopK_of (psI (c :: D') ng) rfl rfl ?step (c :: D').length _ _ ?init
      | have hcn : ((c.toNat : Int) == 48) = false := by
          have : c.toNat ≠ 48 := fun e => hc (toNat48.1 e)
          simp only [beq_eq_false_iff_ne, ne_eq]; omega
        simp [ix, hcn]
        refine loopK_of (psI (c :: D') ng) rfl rfl ?step (c :: D').length _ _ ?init
    case init => exact ⟨_, [], [], c :: D', _, by first | rfl | (rw [hn1]; rfl), rfl, rfl, .inl ⟨rfl, rfl⟩, norm_nil, rfl, by omega, rfl⟩
    case step =>
    rintro w vs st ⟨mv, ms, pre, rest, k, rfl, hw, hD, hm, hn, hv, hk, rfl⟩
    rcases Nat.eq_zero_or_pos w with h0 | h0
    · have hr : rest = [] := List.eq_nil_of_length_eq_zero (by omega)
      subst hr
      rw [List.append_nil] at hD
      subst hD
      simp [ba_size]
      refine callK_pure rfl (by simp [PV.pureL, PV.pureB, hm.pure]) (signed_g hm hn.dig (by have := small_digits hn hv (all_digB.1 hd); omega)) fun r hr => ?_
      simp only [signedR, mg_eq hm] at hr
      rw [hv, ← hv1] at hr
      have hr' := hr
      obtain ⟨rb, rm, rfl⟩ := hr'.shape
      obtain ⟨q1, q2, q3, q4, q5⟩ := hr.cell
      simp [intZero, q1]
      exact outK_pure (by simp [PV.pureB, PV.pureL, q5]) (.inl ⟨hi1', _, rfl, hr⟩)
    · obtain ⟨n, hn1⟩ : ∃ n, n = (rest.length - 1) % 9 + 1 := ⟨_, rfl⟩
      have hlen : pre.length + rest.length ≤ 20000 := by
        have := congrArg List.length hD
        rw [List.length_append] at this
        omega
      have w1 : IntKind.i64.wrap ((rest.length : Int) - 1) = ((rest.length - 1 : Nat) : Int) := by rw [w_i64 (by omega)]; omega
      have w2 : Int.tmod ((rest.length - 1 : Nat) : Int) 9 = (((rest.length - 1) % 9 : Nat) : Int) := rfl
      have w3 : IntKind.i64.wrap (((rest.length - 1 : Nat) : Int) % 9 + 1) = (n : Int) := by rw [w_i64 (by omega)]; omega
      have hr0 : 0 < rest.length := by omega
      simp [ba_size, w1, hr0, w2, w3]
      refine loopK_of (psJ rest mv n ng) rfl rfl ?step n _ _ ?init
      case init => exact ⟨0, _, rfl, by omega, by omega, rfl⟩
      case step =>
      rintro u vs st ⟨i, k, rfl, hiu, hk, rfl⟩
      rcases Nat.eq_zero_or_pos u with h1 | h1
      · have hin : i = n := by omega
        subst hin
        have tl := ten_le (i := i) (by omega)
        have so1 : sliceOp prog (fun x => bif decide (0 = x) then some (⟨2, [intZero]⟩ : Ent) else none) 9 (.str (ba rest)) none (some (.int .i64 i)) = some { val := .str (ba (rest.take i)) } := by
          have h1 : i ≤ rest.length := by omega
          simp [sliceOp, lowOf, highOf, natOf_int, ba_size, extract_ba, ble_lit, h1]
        have so2 : sliceOp prog (fun x => bif decide (0 = x) then some (⟨2, [intZero]⟩ : Ent) else none) 9 (.str (ba rest)) (some (.int .i64 i)) none = some { val := .str (ba (rest.drop i)) } := by
          have h1 : i ≤ rest.length := by omega
          have h2 : (rest.drop i).take (rest.length - i) = rest.drop i := List.take_of_length_le (by simp)
          simp [sliceOp, lowOf, highOf, natOf_int, ba_size, extract_ba, ble_lit, h1, h2]
        have tk : (rest.take i).length = i := by rw [List.length_take]; omega
        have rd : (rest.take i).all digB = true := by
          rw [hD, List.all_append, Bool.and_eq_true] at hd
          rw [List.all_eq_true] at hd ⊢
          exact fun b hb => (List.all_eq_true.1 hd.2) b (List.mem_of_mem_take hb)
        have pd : pre.all digB = true := by
          rw [hD, List.all_append, Bool.and_eq_true] at hd
          exact hd.1
        simp [so1, -Int.natCast_pow]
        refine callK_pure rfl (by rfl) (lib.puint (rest.take i) (fun e => by rw [e] at tk; simp at tk; omega) (by omega) rd) fun r hr => ?_
        simp only [puintR, ba_list] at hr
        subst hr
        obtain ⟨d, hd'⟩ : ∃ d, d = decVal (rest.take i) := ⟨_, rfl⟩
        have dlt : d < 1000000000 := by
          have := decVal_lt (all_digB.1 rd)
          rw [tk, ← hd'] at this
          omega
        rw [← hd']
        have wd : IntKind.u32.wrap (d : Int) = d := w_u32 (by omega)
        simp [wd, -Int.natCast_pow]
        refine callK_pure rfl (by simp [PV.pureL, PV.pureB, hm.pure]) (scale_ok mv ms ((10 ^ i : Nat) : Int) d hm hn.dig (by have := small_digits hn hv (all_digB.1 pd); omega) ⟨Int.natCast_nonneg _, Int.ofNat_lt.2 (show 10 ^ i < 4294967296 by omega)⟩ (by omega)) fun r hr => ?_
        simp only [scaleR, mg_eq hm] at hr
        obtain ⟨ms', hm', hn', hv'⟩ := hr
        simp [so2, -Int.natCast_pow]
        refine ⟨(rest.drop i).length, by simp; omega, r, ms', pre ++ rest.take i, rest.drop i, _, rfl, rfl, by rw [List.append_assoc, List.take_append_drop]; exact hD, hm', hn', ?_, by omega, rfl⟩
        rw [hv', hv, decVal_append, tk, ← hd', Int.natCast_add, Int.natCast_mul]
      · have hin : (i : Int) < n := by omega
        have wi : IntKind.i64.wrap ((i : Int) + 1) = ((i + 1 : Nat) : Int) := w_i64 (by omega)
        have tl := ten_le (i := i + 1) (by omega)
        have wm : IntKind.u32.wrap (((10 ^ i : Nat) : Int) * 10) = ((10 ^ (i + 1) : Nat) : Int) := by
          rw [Nat.pow_succ] at tl ⊢
          rw [w_u32 (by omega)]; omega
        simp [hin, wi, -Int.natCast_pow, wm]
        exact ⟨u - 1, by omega, i + 1, _, rfl, by omega, by omega, rfl⟩
end Go.Proofs.Tryz
namespace Go.Proofs.Tryz
open Go Go.Pi Go.Num Go.Lin
variable [Hole] {G : Nat → Option PV}
noncomputable def numberR : CRel | [v], r => ∃ l, r = .str (ba l) ∧ RatText l (ratv v) | _, _ => False
theorem fits_ten {z : Int} {K : Nat} (h : Fits z K) : z.natAbs < 10 ^ (18 * K) := by
  have h1 := Int.ofNat_lt.1 (Int.lt_of_lt_of_le h (pw_ten K))
  have e : 10 ^ (18 * K) = 1000000000 ^ (2 * K) := by
    rw [show 18 * K = 9 * (2 * K) by omega, Nat.pow_mul]
  rw [e]; exact h1
theorem number_ok (lib : TextLib G) (v : PV) (q : Rat) (hv : IsRat v q) (f : RFits q 2000) : Gives prog G 56 [v] (numberR [v]) := by
  have hfe : numberR [v] = fun r => ∃ l, r = .str (ba l) ∧ RatText l q := by funext r; simp only [numberR, ratv_eq hv]
  rw [hfe]
  have hv0 := hv
  obtain ⟨b, m, c, n, d, rfl, h1, h2, h3⟩ := hv.cases
  obtain ⟨c1, c2, c3, c4, c5⟩ := h1.cell
  obtain ⟨e1, e2, e3, e4, e5⟩ := h2.cell
  refine gives (S := [(63, wholeR), (92, textR)]) (by kernel_rfl) (by kernel_rfl) (callW_of ann56 func56 rfl (by kernel_rfl) ?_)
  simp [c1, e1]
  refine callK_pure rfl (by simp [PV.pureL, hv0.pure]) (whole_ok _ _ hv0 (fits_mono f.den (by omega))) fun r hr => ?_
  simp only [wholeR, ratv_eq hv0] at hr
  subst hr
  by_cases hd : q.den = 1
  · simp [hd]
    refine callK_pure rfl (by simp [PV.pureL, h1.pure]) (text_ok lib _ _ h1 f.num) fun r hr => ?_
    simp only [textR, it_eq h1] at hr
    obtain ⟨l, rfl, hl⟩ := hr
    simp []
    exact outK_pure rfl ⟨_, rfl, .inl ⟨hd, hl⟩⟩
  · have hdd : d = q.den := by rcases h3 with h | h; exact h; exact absurd h.2 hd
    subst hdd
    simp [run_draw, hd]
    refine dcallK_pure rfl (by simp [PV.pureL, h1.pure]) (text_ok lib _ _ h1 f.num) fun r hr => ?_
    simp only [textR, it_eq h1] at hr
    obtain ⟨l, rfl, hl⟩ := hr
    have ll := hl.len (k := 18 * 2000) (fits_ten f.num) (by omega)
    have a1 : strBin .add (ba l) (ba [47]) = some (.str (ba (l ++ [47]))) := by
      have : l.length + 1 ≤ 9223372036854775807 := by omega
      rw [sb_add]
      simp [ble_lit, this]
    simp [c47, a1]
    refine dcallK_pure rfl (by simp [PV.pureL, h2.pure]) (text_ok lib _ _ h2 f.den) fun r hr => ?_
    simp only [textR, it_eq h2] at hr
    obtain ⟨l2, rfl, hl2⟩ := hr
    have hl3 : DecText l2 q.den := by
      rcases hl2 with ⟨_, h⟩ | ⟨h, _⟩
      · simpa using h
      · omega
    have ll2 := hl2.len (k := 18 * 2000) (fits_ten f.den) (by omega)
    have a2 : strBin .add (ba (l ++ [47])) (ba l2) = some (.str (ba (l ++ 47 :: l2))) := by
      have : l.length + 1 + l2.length ≤ 9223372036854775807 := by omega
      rw [sb_add]
      simp [ble_lit, this]
    simp [a2, c2, e2]
    refine ⟨by decide +kernel, ?_⟩
    exact outK_pure rfl ⟨_, rfl, .inr ⟨hd, l, l2, rfl, hl, hl3⟩⟩
def gt (l : List (List UInt8)) (i : Nat) : List UInt8 := l.getD i []
def Rd (l : List (List UInt8)) (x : List Rat) : Prop := x.length = l.length ∧ ∀ i, i < l.length → RatText (gt l i) (gq x i)
theorem gt_set {L : List (List UInt8)} {i j : Nat} {l : List UInt8} (hj : j < L.length) : gt (L.set i l) j = if j = i then l else gt L j := by
  unfold gt
  simp only [List.getD, List.getElem?_set]
  by_cases h : j = i
  · subst h
    simp [hj]
  · rw [if_neg h, if_neg (fun e => h e.symm)]
theorem gt_get {L : List (List UInt8)} {i : Nat} (h : i < L.length) : (SS L)[i]? = some (.str (ba (gt L i))) := by
  rw [SS_get h]; simp [gt, List.getD, h]
theorem outK_SS {Q : PV → Prop} {j n : Nat} {L : List (List UInt8)} {s : St} (h : s.hp j = some ⟨1, SS L⟩) (hn : L.length = n) (hq : Q (.slice (SS L))) : outK Q (.own j 0 n) s := ⟨_, _, reify_SS h hn, hq⟩
noncomputable def numbersR : CRel | [v], r => ∃ L, r = .slice (SS L) ∧ Rd L (rl v) | _, _ => False
def numI (v : PV) (x : List Rat) : Nat → List PV → St → Prop := fun w vs st => ∃ (i k j : Nat) (L : List (List UInt8)) (H : List (Nat × Ent)), vs = [.int .i64 (i : Int), .int .i64 (x.length : Int), .own j 0 x.length, v] ∧ i + w = x.length ∧ L.length = x.length ∧ (∀ l, l < i → RatText (gt L l) (gq x l)) ∧
  Go.Pi.look H j = some ⟨1, SS L⟩ ∧ (∀ q ∈ H, q.1 < k) ∧ j < k ∧ st = ⟨k, H, []⟩
theorem rep_str (n : Nat) : repeatP (.str ⟨#[]⟩) n = SS (List.replicate n []) := by
  rw [rep_eq, c0]; simp [SS]
theorem numbers_ok (lib : TextLib G) (v : PV) (x : List Rat) (hv : IsRL v x) (f : LFits x 2000) (hl : x.length ≤ 100) : Gives prog G 57 [v] (numbersR [v]) := by
  have hfe : numbersR [v] = fun r => ∃ L, r = .slice (SS L) ∧ Rd L x := by funext r; simp only [numbersR, rl_eq hv]
  rw [hfe]
  have lv := hv.len
  have mk : x.length * 16 ≤ 140737488355328 := by omega
  have mk2 : x.length < 9223372036854775808 := by omega
  refine gives (S := [(56, numberR)]) (by kernel_rfl) (by kernel_rfl) (callW_of ann57 func57 rfl (by kernel_rfl) ?_)
  simp [lv, mk, mk2, rep_str]
  refine loopK_of (numI v x) rfl rfl ?step x.length _ _ ?init
  case init => exact ⟨0, _, _, List.replicate x.length [], _, rfl, by omega, by simp, fun l h => absurd h (Nat.not_lt_zero l), rfl, by simp, by omega, rfl⟩
  case step =>
  rintro w vs st ⟨i, k, j, L, H, rfl, hiw, hL, hall, lj, hlt, hj, rfl⟩
  rcases Nat.eq_zero_or_pos w with h0 | h0
  · have hi : i = x.length := by omega
    subst hi
    simp []
    exact outK_SS lj hL ⟨L, rfl, hL.symm, fun i hi => hall i (by omega)⟩
  · have hi : i < x.length := by omega
    have hii : (i : Int) < x.length := by omega
    have wi : IntKind.i64.wrap ((i : Int) + 1) = ((i + 1 : Nat) : Int) := w_i64 (by omega)
    obtain ⟨es, rfl, he⟩ := hv.at hi
    obtain ⟨b2, m2, cc2, u2, d2, g1, g2, g3, g4⟩ := he.get hi
    obtain ⟨x1, x2, x3, x4, x5⟩ := g3.cell
    obtain ⟨y1, y2, y3, y4, y5⟩ := g4.cell
    have g1' := getE g1
    have esl := he.len
    simp [hii, hi, esl, g1', x1, y1]
    refine callK_pure rfl (by simp [PV.pureL, g2.pure]) (number_ok lib _ _ g2 (f i hi)) fun r hr => ?_
    simp only [numberR, ratv_eq g2] at hr
    obtain ⟨l, rfl, hl2⟩ := hr
    have lus : ∀ E, Go.Pi.look (Go.Pi.upd H j E) j = some E := fun E => look_upd_same lj
    have nj : ¬ k + 1 + 1 + 1 + 1 = j := by omega
    have gg := gt_get (L := L) (i := i) (by omega)
    have gg' := getE gg
    simp [hi, wi, hL, SS_len, lj, SS_set, nj, gg']
    refine ⟨w - 1, by omega, i + 1, _, j, L.set i l, _, rfl, by omega, by simp [hL], fun q hq => ?_, ?_, ?_, by omega, rfl⟩
    · rw [gt_set (by omega)]
      by_cases hqi : q = i
      · rw [if_pos hqi, hqi]; exact hl2
      · rw [if_neg hqi]; exact hall q (by omega)
    · rw [look_cons_ne nj]; exact look_upd_same lj
    · exact cons_lt (upd_lt hlt) (by omega) (by omega)
def IsSL (v : PV) (l : List (List UInt8)) : Prop := (v = .nil ∧ l = []) ∨ v = .slice (SS l)
theorem SS_inj {a b : List (List UInt8)} (h : SS a = SS b) : a = b := by
  have : bytesOfL (.slice (SS a)) = bytesOfL (.slice (SS b)) := by rw [h]
  rwa [bytesOf_SS, bytesOf_SS] at this
theorem IsSL.inj {v : PV} {l m : List (List UInt8)} (h : IsSL v l) (h' : IsSL v m) : l = m := by
  rcases h with ⟨rfl, rfl⟩ | rfl
  · rcases h' with ⟨_, rfl⟩ | h'
    · rfl
    · cases h'
  · rcases h' with ⟨h', _⟩ | h'
    · cases h'
    · exact SS_inj (PV.slice.inj h')
theorem IsSL.len {v : PV} {l : List (List UInt8)} (h : IsSL v l) : lenPV v = some l.length := by
  rcases h with ⟨rfl, rfl⟩ | rfl
  · rfl
  · simp [lenPV, SS_len]
theorem IsSL.pure {v : PV} {l : List (List UInt8)} (h : IsSL v l) : v.pureB = true := by
  rcases h with ⟨rfl, _⟩ | rfl <;> rfl
theorem IsSL.cell {v : PV} {l : List (List UInt8)} (h : IsSL v l) : v.cellOk = true ∧ v.cells = [v] ∧ v.isTop = false ∧ v.ids = [] := by
  rcases h with ⟨rfl, _⟩ | rfl <;> exact ⟨rfl, rfl, rfl, rfl⟩
theorem IsSL.at {v : PV} {l : List (List UInt8)} (h : IsSL v l) {i : Nat} (hi : i < l.length) : v = .slice (SS l) := by
  rcases h with ⟨_, rfl⟩ | h
  · simp at hi
  · exact h
noncomputable def sl (v : PV) : List (List UInt8) := the (IsSL v)
theorem sl_eq {v : PV} {l : List (List UInt8)} (h : IsSL v l) : sl v = l := the_eq h fun _ h' => IsSL.inj h' h
structure TO where
  kind : Int
  val : List UInt8
  pt : List (List UInt8)
  du : List (List UInt8)
  ray : List (List UInt8)
def IsTO (v : PV) (t : TO) : Prop := ∃ vp vd vr, v = .agg [.int .i64 t.kind, .str (ba t.val), vp, vd, vr] ∧ IsSL vp t.pt ∧ IsSL vd t.du ∧ IsSL vr t.ray
theorem IsTO.inj {v : PV} {t u : TO} (h : IsTO v t) (h' : IsTO v u) : t = u := by
  obtain ⟨a, b, c, rfl, h1, h2, h3⟩ := h
  obtain ⟨a', b', c', e, k1, k2, k3⟩ := h'
  simp only [PV.agg.injEq, List.cons.injEq, PV.int.injEq, PV.str.injEq, and_true, true_and] at e
  obtain ⟨e0, e1, rfl, rfl, rfl⟩ := e
  cases t; cases u
  simp only [TO.mk.injEq]
  exact ⟨e0, ba_inj e1, h1.inj k1, h2.inj k2, h3.inj k3⟩
noncomputable instance : Inhabited TO := ⟨⟨0, [], [], [], []⟩⟩
noncomputable def to (v : PV) : TO := the (IsTO v)
theorem to_eq {v : PV} {t : TO} (h : IsTO v t) : to v = t := the_eq h fun _ h' => IsTO.inj h' h
theorem IsTO.pure {v : PV} {t : TO} (h : IsTO v t) : v.pureB = true := by
  obtain ⟨a, b, c, rfl, h1, h2, h3⟩ := h
  simp [PV.pureB, PV.pureL, h1.pure, h2.pure, h3.pure]
def TextsR (o : Sol) (r : PV) : Prop := ∃ t, IsTO r t ∧ t.kind = o.kind ∧ ((o.kind = 1 ∧ RatText t.val o.val ∧ Rd t.pt o.pt ∧ Rd t.du o.du ∧ t.ray = []) ∨ (o.kind = 2 ∧ t.val = [] ∧ t.pt = [] ∧ Rd t.du o.du ∧ t.ray = []) ∨ (o.kind = 3 ∧ t.val = [] ∧ Rd t.pt o.pt ∧ t.du = [] ∧ Rd t.ray o.ray))
noncomputable def textsR : CRel | [v], r => TextsR (so v) r | _, _ => False
theorem slv_slice (L : List (List UInt8)) : (PV.slice (SS L)).cellOk = true ∧ (PV.slice (SS L)).ids = [] := ⟨rfl, rfl⟩
theorem texts_ok (lib : TextLib G) (v : PV) (o : Sol) (hv : IsSol v o) (f : o.Fits 2000) (hk : o.kind = 1 ∨ o.kind = 2 ∨ o.kind = 3) (l1 : o.pt.length ≤ 100) (l2 : o.du.length ≤ 100) (l3 : o.ray.length ≤ 100) : Gives prog G 20 [v] (textsR [v]) := by
  have hfe : textsR [v] = TextsR o := by funext r; simp only [textsR, so_eq hv]
  rw [hfe]
  obtain ⟨sb, sm, sc, su, vp, vd, vy, rfl, g1, g2, g3, g4⟩ := hv
  obtain ⟨vb', vm', vc', vu', vd', ee, s1, s2, _⟩ := g1.cases
  simp only [PV.agg.injEq, List.cons.injEq, PV.bool.injEq, and_true] at ee
  obtain ⟨rfl, rfl, rfl, rfl⟩ := ee
  obtain ⟨s11, s12, s13, s14, s15⟩ := s1.cell
  obtain ⟨s21, s22, s23, s24, s25⟩ := s2.cell
  obtain ⟨p1, p2, p3, p4⟩ := g2.cell
  obtain ⟨q1, q2, q3, q4⟩ := g3.cell
  obtain ⟨y1, y2, y3, y4⟩ := g4.cell
  refine gives (S := [(56, numberR), (57, numbersR)]) (by kernel_rfl) (by kernel_rfl) (callW_of ann20 func20 rfl (by kernel_rfl) ?_)
  rcases hk with hk | hk | hk
  · rw [hk]
    simp [run_draw, s11, s21, p1, q1, y1]
    refine dcallK_pure rfl (by simp [PV.pureL, g1.pure]) (number_ok lib _ _ g1 f.val) fun r1 hr1 => ?_
    simp only [numberR, ratv_eq g1] at hr1
    obtain ⟨l, rfl, hl⟩ := hr1
    simp []
    refine dcallK_pure rfl (by simp [PV.pureL, g2.pure]) (numbers_ok lib _ _ g2 f.pt l1) fun r2 hr2 => ?_
    simp only [numbersR, rl_eq g2] at hr2
    obtain ⟨L2, rfl, hl2⟩ := hr2
    simp []
    refine dcallK_pure rfl (by simp [PV.pureL, g3.pure]) (numbers_ok lib _ _ g3 f.du l2) fun r3 hr3 => ?_
    simp only [numbersR, rl_eq g3] at hr3
    obtain ⟨L3, rfl, hl3⟩ := hr3
    simp [s12, s22, p4, q4]
    exact ⟨by decide +kernel, outK_pure rfl ⟨⟨1, l, L2, L3, []⟩, ⟨_, _, _, rfl, .inr rfl, .inr rfl, .inl ⟨rfl, rfl⟩⟩, hk.symm, .inl ⟨hk, hl, hl2, hl3, rfl⟩⟩⟩
  · rw [hk]
    simp [s11, s21, p1, q1, y1]
    refine callK_pure rfl (by simp [PV.pureL, g3.pure]) (numbers_ok lib _ _ g3 f.du l2) fun r3 hr3 => ?_
    simp only [numbersR, rl_eq g3] at hr3
    obtain ⟨L3, rfl, hl3⟩ := hr3
    simp []
    exact outK_pure rfl ⟨⟨2, [], [], L3, []⟩, ⟨_, _, _, rfl, .inl ⟨rfl, rfl⟩, .inr rfl, .inl ⟨rfl, rfl⟩⟩, hk.symm, .inr (.inl ⟨hk, rfl, rfl, hl3, rfl⟩)⟩
  · rw [hk]
    simp [run_draw, s11, s21, p1, q1, y1]
    refine dcallK_pure rfl (by simp [PV.pureL, g2.pure]) (numbers_ok lib _ _ g2 f.pt l1) fun r2 hr2 => ?_
    simp only [numbersR, rl_eq g2] at hr2
    obtain ⟨L2, rfl, hl2⟩ := hr2
    simp []
    refine dcallK_pure rfl (by simp [PV.pureL, g4.pure]) (numbers_ok lib _ _ g4 f.ray l3) fun r3 hr3 => ?_
    simp only [numbersR, rl_eq g4] at hr3
    obtain ⟨L3, rfl, hl3⟩ := hr3
    simp [p4, y4]
    exact ⟨by decide +kernel, outK_pure rfl ⟨⟨3, [], L2, [], L3⟩, ⟨_, _, _, rfl, .inr rfl, .inl ⟨rfl, rfl⟩, .inr rfl⟩, hk.symm, .inr (.inr ⟨hk, rfl, hl2, rfl, hl3⟩)⟩⟩
end Go.Proofs.Tryz
namespace Go.Proofs.Tryz
open Go Go.Pi Go.Num
variable [Hole] {G : Nat → Option PV}
def ten : List UInt8 := [48, 49, 50, 51, 52, 53, 54, 55, 56, 57]
noncomputable def cutR : CRel | [.str s, _], r => r = .tuple [.str (ba (cutAt 47 s.data.toList).1), .str (ba (cutAt 47 s.data.toList).2.1), .bool (cutAt 47 s.data.toList).2.2] | _, _ => False
noncomputable def trimpR : CRel | [.str s, _], r => r = .str (ba (unsigned s.data.toList).1) | _, _ => False
noncomputable def strimR : CRel | [.str s, .str t], r => r = .str (ba (trimU s.data.toList t.data.toList)) | _, _ => False
noncomputable def digitsR : CRel | [.str s], r => r = .bool (!s.data.toList.isEmpty && s.data.toList.all digB) | _, _ => False
structure ReadLib (G : Nat → Option PV) : Prop extends IntLib G where
  cut : ∀ l : List UInt8, l.length ≤ 100000 → Gives prog G 95 [.str (ba l), .str (ba [47])] (cutR [.str (ba l), .str (ba [47])])
  trimp : ∀ l : List UInt8, l.length ≤ 100000 → Gives prog G 97 [.str (ba l), .str (ba [45])] (trimpR [.str (ba l), .str (ba [45])])
  trim : ∀ l cs : List UInt8, l.length ≤ 100000 → (cs = ten ∨ cs = [48]) → Gives prog G 98 [.str (ba l), .str (ba cs)] (strimR [.str (ba l), .str (ba cs)])
theorem dropU_nil (cs : List UInt8) : ∀ l : List UInt8, dropU cs l = [] ↔ l.all (memU cs) = true
  | [] => by simp [dropU]
  | b :: l => by
    simp only [dropU, List.all_cons]
    cases h : memU cs b with
    | true => simp [dropU_nil cs l]
    | false => simp
theorem dropU_mem (cs : List UInt8) : ∀ l : List UInt8, ∀ b ∈ dropU cs l, b ∈ l
  | [], b, h => h
  | a :: l, b, h => by
    simp only [dropU] at h
    cases hm : memU cs a with
    | true => rw [hm] at h; exact List.mem_cons_of_mem _ (dropU_mem cs l b h)
    | false => rw [hm] at h; exact h
theorem trimU_nil (l cs : List UInt8) : trimU l cs = [] ↔ l.all (memU cs) = true := by
  unfold trimU
  rw [dropU_nil]
  constructor
  · intro h
    have h2 : (dropU cs l.reverse) = [] := by
      rcases hd : dropU cs l.reverse with _ | ⟨b, r⟩
      · rfl
      · exfalso
        have hb : memU cs b = true := by
          rw [List.all_eq_true] at h
          exact h b (by rw [hd]; simp)
        have : ∀ (l : List UInt8), dropU cs l = b :: r → memU cs b = false := by
          intro l
          induction l with
          | nil => intro h; cases h
          | cons a l ih =>
            intro h
            simp only [dropU] at h
            cases hm : memU cs a with
            | true => rw [hm] at h; exact ih h
            | false => rw [hm] at h; cases h; exact hm
        rw [this _ hd] at hb
        cases hb
    rw [dropU_nil] at h2
    rw [List.all_eq_true] at h2 ⊢
    exact fun b hb => h2 b (by simpa using hb)
  · intro h
    rw [List.all_eq_true] at h ⊢
    intro b hb
    exact h b (by have := dropU_mem cs l.reverse b (by simpa using hb); simpa using this)
theorem memU_ten (b : UInt8) : memU ten b = digB b := by
  have h := b.toNat_lt
  rw [Bool.eq_iff_iff]
  simp [memU, ten, digB]
  omega
theorem trim_ten (l : List UInt8) : trimU l ten = [] ↔ l.all digB = true := by
  rw [trimU_nil]
  have : memU ten = digB := funext memU_ten
  rw [this]
theorem digits_ok (lib : ReadLib G) (l : List UInt8) (hl : l.length ≤ 100000) : Gives prog G 96 [.str (ba l)] (digitsR [.str (ba l)]) := by
  have hfe : digitsR [.str (ba l)] = fun r => r = .bool (!l.isEmpty && l.all digB) := by funext r; simp only [digitsR, ba_list]
  rw [hfe]
  have t10 : (⟨#[48, 49, 50, 51, 52, 53, 54, 55, 56, 57]⟩ : ByteArray) = ba ten := rfl
  refine gives (S := [(98, strimR)]) (by kernel_rfl) (by kernel_rfl) (callW_of ann96 func96 rfl (by kernel_rfl) ?_)
  rcases l with _ | ⟨b, l⟩
  · simp [c0, sb_neq]
    exact outK_pure rfl rfl
  · simp [c0, sb_neq, t10]
    refine callK_pure rfl (by rfl) (lib.trim (b :: l) ten hl (.inl rfl)) fun r hr => ?_
    simp only [strimR, ba_list] at hr
    subst hr
    have tt := trim_ten (b :: l)
    simp [sb_eql]
    refine outK_pure rfl ?_
    rw [PV.bool.injEq, Bool.eq_iff_iff, decide_eq_true_eq, tt]
    simp
def ReadP (l : List UInt8) (r : PV) : Prop := (∃ x q, RatText l x ∧ IsRat q x ∧ r = .tuple [q, .int .i64 0]) ∨ ((∀ x, ¬ RatText l x) ∧ ∃ e, e ≠ 0 ∧ r = .tuple [ratZero, .int .i64 e])
noncomputable def readR : CRel | .str s :: _, r => ReadP s.data.toList r | _, _ => False
theorem noRat {l : List UInt8} (h : ratB l = false) : ∀ x, ¬ RatText l x := fun x hx => by
  have := ratB_iff.2 ⟨x, hx⟩
  rw [h] at this; cases this
theorem decB_dig {l : List UInt8} (h : (!l.isEmpty && l.all digB) = false) : decB l = false := by
  unfold decB; rw [h]; rfl
theorem intB_dig {l : List UInt8} (h : (!(unsigned l).1.isEmpty && (unsigned l).1.all digB) = false) : intB l = false := by
  unfold intB; rw [decB_dig h]; rfl
theorem cutAt_len {l x y : List UInt8} {f : Bool} (h : cutAt 47 l = (x, y, f)) : x.length ≤ l.length ∧ y.length ≤ l.length := by
  have hs := cutAt_spec (c := 47) (l := l)
  rw [h] at hs
  cases f with
  | false =>
    obtain ⟨h1, h2⟩ := hs.2 rfl
    simp only at h1 h2
    rw [h1, h2]; simp
  | true =>
    have h1 := hs.1 rfl
    simp only at h1
    rw [h1]; simp; omega
theorem unsigned_len (l : List UInt8) : (unsigned l).1.length ≤ l.length := by
  rcases l with _ | ⟨b, r⟩
  · simp [unsigned]
  · simp only [unsigned]
    split <;> simp
theorem intV_fits {l : List UInt8} (h : intB l = true) {K : Nat} (hl : l.length ≤ K) : Fits (intV l) K := by
  have := (intText_iff.2 ⟨h, rfl⟩ : IntText l (intV l)).lt
  refine Int.lt_of_lt_of_le (Int.ofNat_lt.2 this) (Int.le_trans (pw_ge_ten _) (pw_mono hl))
theorem ratB_cut {l x y : List UInt8} {f : Bool} (hc : cutAt 47 l = (x, y, f)) : ratB l = if f then (intB x && decB y && decide (1 < decVal y) && decide (Nat.gcd (intV x).natAbs (decVal y) = 1)) else intB x := by
  unfold ratB; rw [hc]; cases f <;> rfl
theorem zero_val : ∀ {y : List UInt8}, y.all (memU [48]) = true → decVal y = 0
  | [], _ => rfl
  | b :: y, h => by
    simp only [List.all_cons, Bool.and_eq_true] at h
    have ih := zero_val h.2
    have hb : b.toNat = 48 := by
      have := h.1
      simp [memU] at this
      exact this.symm
    rw [decVal_cons, ih, hb]; simp
theorem intB_dec {y : List UInt8} (h : y.all digB = true) : unsigned y = (y, false) := unsigned_pos fun hm => dig45 (digB_iff.1 ((List.all_eq_true.1 h) _ hm))
theorem intB_dec2 {y : List UInt8} (h : y.all digB = true) : intB y = decB y ∧ intV y = decVal y := by
  unfold intB intV
  rw [intB_dec h]; simp
def specsRd : Specs := [(95, cutR), (97, trimpR), (98, strimR), (96, digitsR), (99, parseR), (100, oneR), (64, compareR), (101, gcdR)]
theorem read0_ok (lib : ReadLib G) (l : List UInt8) (hl : l.length ≤ 20000) : Gives prog G 60 [.str (ba l), .int .i64 65536] (readR [.str (ba l), .int .i64 65536]) := by
  have hfe : readR [.str (ba l), .int .i64 65536] = ReadP l := by funext r; simp only [readR, ba_list]
  rw [hfe]
  obtain ⟨⟨x, y, f⟩, hc⟩ : ∃ t : List UInt8 × List UInt8 × Bool, cutAt 47 l = t := ⟨_, rfl⟩
  obtain ⟨lx, ly⟩ := cutAt_len hc
  have lu := unsigned_len x
  have rb := ratB_cut hc
  have err : ∀ {e : Int} {s : St}, ratB l = false → e ≠ 0 → outK (ReadP l) (.tuple [ratZero, .int .i64 e]) s := fun h he => outK_pure rfl (.inr ⟨noRat h, _, he, rfl⟩)
  have l1 : ¬ (65536 : Int) < l.length := by omega
  refine gives (S := specsRd) (by kernel_rfl) (by kernel_rfl) (callW_of ann60 func60 rfl (by kernel_rfl) ?_)
  simp [c47]
  refine callK_pure rfl (by rfl) (lib.cut l (by omega)) fun r hr => ?_
  simp only [cutR, ba_list, hc] at hr
  subst hr
  simp [ba_size, l1, c45]
  refine callK_pure rfl (by rfl) (lib.trimp x (by omega)) fun r hr => ?_
  simp only [trimpR, ba_list] at hr
  subst hr
  simp []
  refine callK_pure rfl (by rfl) (digits_ok lib (unsigned x).1 (by omega)) fun r hr => ?_
  simp only [digitsR, ba_list] at hr
  subst hr
  obtain ⟨dx, hdx⟩ : ∃ d, d = (!(unsigned x).1.isEmpty && (unsigned x).1.all digB) := ⟨_, rfl⟩
  rw [← hdx]
  cases dx with
  | false =>
    have hi := intB_dig hdx.symm
    simp []
    exact err (by rw [rb, hi]; cases f <;> simp) (by decide)
  | true =>
    have hdx2 := hdx.symm
    simp only [Bool.and_eq_true, Bool.not_eq_true', List.isEmpty_eq_false_iff] at hdx2
    cases f with
    | false =>
      simp only [Bool.false_eq_true, if_false] at rb
      simp []
      refine callK_pure rfl (by rfl) (parse_ok lib.toIntLib x (by omega) hdx2.1 hdx2.2) fun r hr => ?_
      simp only [parseR, ba_list] at hr
      rcases hr with ⟨hi, q, rfl, hq⟩ | ⟨hi, rfl⟩
      · obtain ⟨b, m, rfl⟩ := hq.shape
        obtain ⟨q1, q2, q3, q4, q5⟩ := hq.cell
        simp [q1]
        have hr : IsRat (.agg [.bool b, m, .bool false, .nil]) ((intV x : Int) : Rat) := IsRat.mk hq isInt_zero (by simp) (.inr ⟨rfl, by simp⟩)
        exact outK_pure (by simp [PV.pureB, PV.pureL, q5]) (.inl ⟨_, _, (ratText_iff hc).2 (.inl ⟨by simp, rfl, by simp; exact intText_iff.2 ⟨hi, rfl⟩⟩), hr, rfl⟩)
      · simp [intZero]
        exact err (by rw [rb, hi]) (by decide)
    | true =>
      simp only [if_true] at rb
      simp []
      refine callK_pure rfl (by rfl) (digits_ok lib y (by omega)) fun r hr => ?_
      simp only [digitsR, ba_list] at hr
      subst hr
      obtain ⟨dy, hdy⟩ : ∃ d, d = (!y.isEmpty && y.all digB) := ⟨_, rfl⟩
      rw [← hdy]
      cases dy with
      | false =>
        have hi := decB_dig hdy.symm
        simp []
        exact err (by rw [rb, hi]; simp) (by decide)
      | true =>
        have hdy2 := hdy.symm
        simp only [Bool.and_eq_true, Bool.not_eq_true', List.isEmpty_eq_false_iff] at hdy2
        obtain ⟨iy1, iy2⟩ := intB_dec2 hdy2.2
        have uy := intB_dec hdy2.2
        simp [c48]
        refine callK_pure rfl (by rfl) (lib.trim y [48] (by omega) (.inr rfl)) fun r hr => ?_
        simp only [strimR, ba_list] at hr
        subst hr
        have tz := trimU_nil y [48]
        by_cases hz : trimU y [48] = []
        · have v0 := zero_val (tz.1 hz)
          simp [hz, c0, sb_eql]
          exact err (by rw [rb, v0]; simp) (by decide)
        · simp [hz, c0, sb_eql]
          refine callK_pure rfl (by rfl) (parse_ok lib.toIntLib x (by omega) hdx2.1 hdx2.2) fun r hr => ?_
          simp only [parseR, ba_list] at hr
          rcases hr with ⟨hi, q, rfl, hq⟩ | ⟨hi, rfl⟩
          · obtain ⟨b, m, rfl⟩ := hq.shape
            obtain ⟨q1, q2, q3, q4, q5⟩ := hq.cell
            simp [q1]
            refine callK_pure rfl (by rfl) (parse_ok lib.toIntLib y (by omega) (by rw [uy]; exact hdy2.1) (by rw [uy]; exact hdy2.2)) fun r hr => ?_
            simp only [parseR, ba_list] at hr
            rcases hr with ⟨hj, q', rfl, hq'⟩ | ⟨hj, rfl⟩
            · rw [iy1] at hj
              rw [iy2] at hq'
              obtain ⟨c, n, rfl⟩ := hq'.shape
              obtain ⟨w1, w2, w3, w4, w5⟩ := hq'.cell
              have fy : Fits (decVal y : Int) 20000 := by
                rw [← iy2]
                exact intV_fits (by rw [iy1]; exact hj) (by omega)
              have fx : Fits (intV x) 20000 := intV_fits hi (by omega)
              have nd : decVal y ≠ 0 := fun e => hz (tz.2 (by
                have h48 := (decText_iff (l := y) (n := decVal y)).2 ⟨hj, rfl⟩
                have := decVal_pos hj
                by_cases hy48 : y = [48]
                · rw [hy48]; decide
                · have := this hy48; omega))
              simp [run_draw, w1]
              refine dcallK_pure rfl rfl one_ok fun r1 hr1 => ?_
              simp only [oneR] at hr1
              obtain ⟨b1, m1, rfl⟩ := hr1.shape
              obtain ⟨u1, u2, u3, u4, u5⟩ := hr1.cell
              simp []
              refine dcallK_pure rfl (by simp [PV.pureL, hq'.pure, hr1.pure]) (compare_ok _ _ _ 1 hq' hr1 (fits_mono fy (by omega)) (fits_one (by omega))) fun r2 hr2 => ?_
              simp only [compareR, it_eq hq', it_eq hr1] at hr2
              subst hr2
              by_cases h1 : decVal y = 1
              · have hc1 : (cmpI (decVal y : Int) 1 == 0) = true := by rw [h1]; rfl
                simp [hc1, w2, u2]
                exact ⟨by decide +kernel, err (by rw [rb, h1]; simp) (by decide)⟩
              · have hc1 : (cmpI (decVal y : Int) 1 == 0) = false := by
                  simp only [beq_eq_false_iff_ne, ne_eq, cmpI_zero]; omega
                simp [hc1]
                refine dcallK_pure rfl (by simp [PV.pureL, hq.pure, hq'.pure]) (gcd_ok _ _ (intV x) (decVal y) hq hq' (fits_mono fx (by omega)) (fits_mono fy (by omega))) fun r3 hr3 => ?_
                simp only [gcdR, it_eq hq, it_eq hq', Int.natAbs_natCast] at hr3
                obtain ⟨g, hg⟩ : ∃ g, g = Nat.gcd (intV x).natAbs (decVal y) := ⟨_, rfl⟩
                rw [← hg] at hr3
                have fg : Fits (g : Int) 20000 := fits_le fy (by rw [hg]; simp only [Int.natAbs_natCast]; exact Nat.gcd_le_right _ (by omega))
                obtain ⟨b3, m3, rfl⟩ := hr3.shape
                obtain ⟨k1, k2, k3, k4, k5⟩ := hr3.cell
                simp []
                refine dcallK_pure rfl rfl one_ok fun r4 hr4 => ?_
                simp only [oneR] at hr4
                obtain ⟨b4, m4, rfl⟩ := hr4.shape
                obtain ⟨i1, i2, i3, i4, i5⟩ := hr4.cell
                simp []
                refine dcallK_pure rfl (by simp [PV.pureL, hr3.pure, hr4.pure]) (compare_ok _ _ _ 1 hr3 hr4 (fits_mono fg (by omega)) (fits_one (by omega))) fun r5 hr5 => ?_
                simp only [compareR, it_eq hr3, it_eq hr4] at hr5
                subst hr5
                by_cases hg1 : g = 1
                · have hc2 : (cmpI (g : Int) 1 != 0) = false := by rw [hg1]; rfl
                  simp [q1, w1, hc2, q2, w2, u2, k2, i2]
                  have hq1 : IsRat (.agg [.bool b, m, .bool c, n]) ⟨intV x, decVal y, nd, by show Nat.gcd _ _ = 1; omega⟩ := IsRat.mk hq hq' rfl (.inl rfl)
                  refine ⟨by decide +kernel, outK_pure (by simp [PV.pureB, PV.pureL, q5, w5]) (.inl ⟨_, _, (ratText_iff hc).2 (.inr ⟨h1, rfl, intText_iff.2 ⟨hi, rfl⟩, decText_iff.2 ⟨hj, rfl⟩⟩), hq1, rfl⟩)⟩
                · have hc2 : (cmpI (g : Int) 1 != 0) = true := by
                    simp only [bne_iff_ne, ne_eq, cmpI_zero]; omega
                  simp [hc2, q2, w2, u2, k2, i2]
                  exact ⟨by decide +kernel, err (by rw [rb]; simp [← hg, hg1]) (by decide)⟩
            · rw [iy1] at hj
              simp [run_draw, intZero]
              exact ⟨by decide +kernel, err (by rw [rb, hj]; simp) (by decide)⟩
          · simp [intZero]
            exact err (by rw [rb, hi]; simp) (by decide)
end Go.Proofs.Tryz
namespace Go.Proofs.Tryz
open Go Go.Pi Go.Num Go.Lin
variable [Hole] {G : Nat → Option PV}
theorem ReadP.cases {l : List UInt8} {r : PV} (h : ReadP l r) : ∃ b m c u e x, r = .tuple [.agg [.bool b, m, .bool c, u], .int .i64 e] ∧ IsRat (.agg [.bool b, m, .bool c, u]) x ∧ ((e = 0 ∧ RatText l x) ∨ (e ≠ 0 ∧ ∀ y, ¬ RatText l y)) := by
  rcases h with ⟨x, q, h1, h2, rfl⟩ | ⟨h1, e, he, rfl⟩
  · have h2' := h2
    obtain ⟨b, m, c, u, d, rfl, _, _, _⟩ := h2.cases
    exact ⟨b, m, c, u, 0, x, rfl, h2', .inl ⟨rfl, h1⟩⟩
  · exact ⟨false, .nil, false, .nil, e, 0, rfl, isRat_zero, .inr ⟨he, h1⟩⟩
theorem Read_ok (lib : ReadLib G) (l : List UInt8) (hl : l.length ≤ 20000) : Gives prog G 24 [.str (ba l)] (readR [.str (ba l)]) := by
  have hfe : readR [.str (ba l)] = ReadP l := by funext r; simp only [readR, ba_list]
  rw [hfe]
  refine gives (S := [(60, readR)]) (by kernel_rfl) (by kernel_rfl) (callW_of ann24 func24 rfl (by kernel_rfl) ?_)
  simp []
  refine callK_pure rfl rfl (read0_ok lib l hl) fun r hr => ?_
  simp only [readR, ba_list] at hr
  have hr0 := hr
  obtain ⟨b, m, c, u, e, x, rfl, h1, h2⟩ := hr.cases
  obtain ⟨b', m', c', u', d, ee, i1, i2, _⟩ := h1.cases
  simp only [PV.agg.injEq, List.cons.injEq, PV.bool.injEq, and_true] at ee
  obtain ⟨rfl, rfl, rfl, rfl⟩ := ee
  obtain ⟨a1, a2, a3, a4, a5⟩ := i1.cell
  obtain ⟨b1, b2, b3, b4, b5⟩ := i2.cell
  simp [a1, b1]
  exact outK_pure (by simp [PV.pureB, PV.pureL, a5, b5]) hr0
theorem outK_tuple {Q : PV → Prop} {vs ws : List PV} {fl : List Nat} {s : St} (hp : PV.pureL vs = false) (h : reifyWL s.hp (reifyN s.hp 5) vs = some (ws, fl)) (hq : Q (.tuple ws)) : outK Q (.tuple vs) s := by
  refine ⟨.tuple ws, fl, ?_, hq⟩
  unfold reify
  rw [show (PV.tuple vs).pureB = false from hp]
  show reifyW s.hp (reifyN s.hp 5) (.tuple vs) = _
  rw [reifyW, h]
theorem outK_agg {Q : PV → Prop} {vs ws : List PV} {fl : List Nat} {s : St} (hp : PV.pureL vs = false) (h : reifyWL s.hp (reifyN s.hp 5) vs = some (ws, fl)) (hq : Q (.agg ws)) : outK Q (.agg vs) s := by
  refine ⟨.agg ws, fl, ?_, hq⟩
  unfold reify
  rw [show (PV.agg vs).pureB = false from hp]
  show reifyW s.hp (reifyN s.hp 5) (.agg vs) = _
  rw [reifyW, h]
def ReadsP (l : List (List UInt8)) (r : PV) : Prop := (∃ x es, Rd l x ∧ RV es x.length (gq x) ∧ r = .tuple [.slice es, .int .i64 0]) ∨ ((∀ x, ¬ Rd l x) ∧ ∃ e, e ≠ 0 ∧ r = .tuple [.nil, .int .i64 e])
noncomputable def readsR : CRel | v :: _, r => ReadsP (sl v) r | _, _ => False
def LShort (l : List (List UInt8)) : Prop := ∀ i, i < l.length → (gt l i).length ≤ 20000
def allI (v : PV) (l : List (List UInt8)) : Nat → List PV → St → Prop := fun w vs st => ∃ (i k j : Nat) (es : List PV) (xs : Nat → Rat) (H : List (Nat × Ent)), vs = [.int .i64 (i : Int), .int .i64 (l.length : Int), .own j 0 l.length, v, .func 24 []] ∧ i + w = l.length ∧ RV es l.length xs ∧ (∀ q, q < i → RatText (gt l q) (xs q)) ∧
  Go.Pi.look H j = some ⟨4, es⟩ ∧ (∀ q ∈ H, q.1 < k) ∧ j < k ∧ st = ⟨k, H, []⟩
theorem all_ok (lib : ReadLib G) (v : PV) (l : List (List UInt8)) (hv : IsSL v l) (hs : LShort l) (hl : l.length ≤ 100) : Gives prog G 85 [v, .func 24 []] (readsR [v, .func 24 []]) := by
  have hfe : readsR [v, .func 24 []] = ReadsP l := by funext r; simp only [readsR, sl_eq hv]
  rw [hfe]
  have lv := hv.len
  have mk : l.length * 64 ≤ 140737488355328 := by omega
  have mk2 : l.length < 9223372036854775808 := by omega
  have mk3 : l.length * 4 ≤ 140737488355328 := by omega
  have zr1 : ratZero.cells.length = 4 := rfl
  have zr2 : ratZero.cells.all PV.cellOk = true := rfl
  refine gives (S := [(24, readR)]) (by kernel_rfl) (by kernel_rfl) (callW_of ann85 func85 rfl (by kernel_rfl) ?_)
  simp [lv, mk, mk2, zero_rat, rep_eq, zr1, zr2]
  refine loopK_of (allI v l) rfl rfl ?step l.length _ _ ?init
  case init => exact ⟨0, _, _, _, fun _ => 0, _, rfl, by omega, RV.zero l.length, fun l h => absurd h (Nat.not_lt_zero l), rfl, by simp, by omega, rfl⟩
  case step =>
  rintro w vs st ⟨i, k, j, es, xs, H, rfl, hiw, hes, hall, lj, hlt, hj, rfl⟩
  rcases Nat.eq_zero_or_pos w with h0 | h0
  · have hi : i = l.length := by omega
    subst hi
    simp []
    have hb : reifyW (St.mk (k + 1 + 1 + 1 + 1) H []).hp (reifyN (St.mk (k + 1 + 1 + 1 + 1) H []).hp 5) (.own j 0 l.length) = some (.slice es, [j]) := reifyW_own lj hes.len (by decide) hes.pure
    refine outK_tuple rfl (by simp only [reifyWL, hb, reifyW_pure (.int .i64 0) rfl]; rfl) (.inl ⟨lst l.length xs, es, ⟨lst_len _ _, fun i hi => by rw [lst_gq hi]; exact hall i hi⟩, ?_, rfl⟩)
    rw [lst_len]
    exact hes.congr fun q hq => (lst_gq hq).symm
  · have hi : i < l.length := by omega
    have hii : (i : Int) < l.length := by omega
    have wi : IntKind.i64.wrap ((i : Int) + 1) = ((i + 1 : Nat) : Int) := w_i64 (by omega)
    have hv1 := hv.at hi
    subst hv1
    have gg := gt_get hi
    have gg' := getE gg
    have esl := hes.len
    simp [hii, hi, SS_len, gg']
    refine callK_pure rfl rfl (Read_ok lib (gt l i) (hs i hi)) fun r hr => ?_
    simp only [readR, ba_list] at hr
    obtain ⟨b, m, c, u, e, x, rfl, h1, h2⟩ := hr.cases
    obtain ⟨b', m', c', u', d, ee, i1, i2, _⟩ := h1.cases
    simp only [PV.agg.injEq, List.cons.injEq, PV.bool.injEq, and_true] at ee
    obtain ⟨rfl, rfl, rfl, rfl⟩ := ee
    obtain ⟨a1, a2, a3, a4, a5⟩ := i1.cell
    obtain ⟨b1, b2, b3, b4, b5⟩ := i2.cell
    have lus : ∀ E, Go.Pi.look (Go.Pi.upd H j E) j = some E := fun E => look_upd_same lj
    obtain ⟨eb, em, ec, eu, ed, j1, j2, j3, j4⟩ := hes.get hi
    have j1' := getE j1
    rcases h2 with ⟨rfl, h2⟩ | ⟨he, h2⟩
    · simp [hi, wi, esl, lj, a1, b1, j1']
      refine ⟨w - 1, by omega, i + 1, _, j, _, _, _, rfl, by omega, hes.set h1, fun q hq => ?_, look_upd_same lj, upd_lt (fun q hq => Nat.lt_of_lt_of_le (hlt q hq) (by omega)), by omega, rfl⟩
      by_cases hqi : q = i
      · rw [if_pos hqi, hqi]; exact h2
      · rw [if_neg hqi]; exact hall q (by omega)
    · have he1 : (e != 0) = true := by simpa using he
      simp [hi, esl, lj, a1, b1, j1', he1]
      exact outK_pure rfl (.inr ⟨fun x hx => h2 _ (hx.2 i hi), e, he, rfl⟩)
theorem reads_ok (lib : ReadLib G) (v : PV) (l : List (List UInt8)) (hv : IsSL v l) (hs : LShort l) (hl : l.length ≤ 100) : Gives prog G 49 [v] (readsR [v]) := by
  have hfe : readsR [v] = ReadsP l := by funext r; simp only [readsR, sl_eq hv]
  rw [hfe]
  refine gives (S := [(85, readsR)]) (by kernel_rfl) (by kernel_rfl) (callW_of ann49 func49 rfl (by kernel_rfl) ?_)
  simp []
  refine callK_pure rfl (by simp [PV.pureL, hv.pure, PV.pureB]) (all_ok lib v l hv hs hl) fun r hr => ?_
  simp only [readsR, sl_eq hv] at hr
  rcases hr with ⟨x, es, h1, h2, rfl⟩ | ⟨h1, e, he, rfl⟩
  · simp []
    exact outK_pure rfl (.inl ⟨x, es, h1, h2, rfl⟩)
  · simp []
    exact outK_pure rfl (.inr ⟨h1, e, he, rfl⟩)
def CreadsP (l : List (List UInt8)) (r : PV) : Prop := (∃ x es, Rd l x ∧ RV es x.length (gq x) ∧ r = .tuple [.slice es, .bool true]) ∨ ((∀ x, ¬ Rd l x) ∧ r = .tuple [.nil, .bool false])
noncomputable def creadsR : CRel | v :: _, r => CreadsP (sl v) r | _, _ => False
theorem creads_ok (lib : ReadLib G) (v : PV) (l : List (List UInt8)) (hv : IsSL v l) (hs : LShort l) (hl : l.length ≤ 100) : Gives prog G 22 [v] (creadsR [v]) := by
  have hfe : creadsR [v] = CreadsP l := by funext r; simp only [creadsR, sl_eq hv]
  rw [hfe]
  refine gives (S := [(49, readsR)]) (by kernel_rfl) (by kernel_rfl) (callW_of ann22 func22 rfl (by kernel_rfl) ?_)
  simp []
  refine callK_pure rfl (by simp [PV.pureL, hv.pure]) (reads_ok lib v l hv hs hl) fun r hr => ?_
  simp only [readsR, sl_eq hv] at hr
  rcases hr with ⟨x, es, h1, h2, rfl⟩ | ⟨h1, e, he, rfl⟩
  · simp []
    exact outK_pure rfl (.inl ⟨x, es, h1, h2, rfl⟩)
  · have he1 : (e == 0) = false := by simpa using he
    simp [he1]
    exact outK_pure rfl (.inr ⟨h1, rfl⟩)
end Go.Proofs.Tryz
