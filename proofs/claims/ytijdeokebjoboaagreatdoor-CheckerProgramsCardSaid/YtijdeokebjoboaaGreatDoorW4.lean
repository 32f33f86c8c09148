/- The machine on symbols: linear, exchanges. No condition. -/
import Derived.Test.YtijdeokebjoboaaGreatDoorW3
set_option linter.unusedVariables false
set_option linter.unusedSimpArgs false
set_option linter.unusedSectionVars false
set_option linter.unnecessarySimpa false
set_option maxHeartbeats 4000000
set_option maxRecDepth 100000
namespace Go.Proofs.Tryz
open Go Go.Pi Go.Num Go.Lin
variable [Hole] {G : Nat → Option PV}
theorem upd_lt {n j : Nat} {e : Ent} : ∀ {H : List (Nat × Ent)}, (∀ p ∈ H, p.1 < n) → ∀ p ∈ upd H j e, p.1 < n
 | [], _, p, hp => by cases hp
 | (i, x) :: H, h, p, hp => by
  simp only [upd, Bool.cond_eq_ite] at hp
  have h0 := h (i, x) (by simp)
  have ih := upd_lt (j := j) (e := e) (H := H) fun q hq => h q (List.mem_cons_of_mem _ hq)
  split at hp
  ·rename_i hh
   rcases List.mem_cons.1 hp with rfl | hp
   ·exact h0
   ·exact h p (List.mem_cons_of_mem _ hp)
  ·rcases List.mem_cons.1 hp with rfl | hp
   ·exact h0
   ·exact ih p hp
theorem cons_lt {n m j : Nat} {e : Ent} {H : List (Nat × Ent)} (h : ∀ p ∈ H, p.1 < n) (hn : n ≤ m) (hj : j < m) : ∀ p ∈ (j, e) :: H, p.1 < m := fun p hp => by
 rcases List.mem_cons.1 hp with rfl | hp
 ·exact hj
 ·exact Nat.lt_of_lt_of_le (h p hp) hn
theorem lt_mono {n m : Nat} {H : List (Nat × Ent)} (h : ∀ p ∈ H, p.1 < n) (hn : n ≤ m) : ∀ p ∈ H, p.1 < m := fun p hp => Nat.lt_of_lt_of_le (h p hp) hn
def okTri (m : List Nat) (l : List (Nat × Bool × Bool)) : Bool := l.all fun x => x.2.2 || l.all fun y => Nat.beq x.1 y.1 || (y.2.1 && y.2.2) || inOrder m x.1 y.1
def tri (x : Lg) : Nat × Bool × Bool := (x.ix, x.rd.isEmpty, x.wr.isEmpty)
theorem logOk_free {m : List Nat} {l : List Lg} (h : okTri m (l.map tri) = true) : logOk m l = true := by
 unfold okTri at h
 unfold logOk
 refine List.all_eq_true.2 fun x hx => ?_
 have h1 := List.all_eq_true.1 h (tri x) (List.mem_map_of_mem hx)
 cases hw : x.wr.isEmpty with
 | true => rfl
 | false =>
  simp only [tri, hw, Bool.false_or] at h1
  simp only [cond_false]
  refine List.all_eq_true.2 fun y hy => ?_
  have h2 := List.all_eq_true.1 h1 (tri y) (List.mem_map_of_mem hy)
  simp only [tri, Bool.or_eq_true, Bool.and_eq_true, List.isEmpty_iff] at h2
  rcases h2 with (h2 | ⟨h2, h3⟩) | h2
  ·rw [h2]; rfl
  ·rw [h2, h3]
   have : share x.wr ([] ++ []) = false := by
    cases hs : share x.wr ([] ++ []) with
    | false => rfl
    | true =>
     obtain ⟨r, _, h4⟩ := (share_iff _ _).1 hs
     simp at h4
   rw [this]
   cases Nat.beq x.ix y.ix <;> rfl
  ·rw [h2]
   cases Nat.beq x.ix y.ix <;> cases share x.wr (y.rd ++ y.wr) <;> rfl
structure TFits (D : Lin.Tab) (K : Nat) : Prop where
 con : ∀ i, i < D.m → RFits (D.con i) K
 cel : ∀ i j, i < D.m → j < D.n → RFits (D.cel i j) K
 top : ∀ j, j < D.n → RFits (D.top j) K
 val : RFits D.val K
structure Mid (L : Blk) (n0 : Nat) (H : List (Nat × Ent)) (D : Lin.Tab) (k : Nat) (Hk : List (Nat × Ent)) : Prop where
 tab : TabAt L Hk D
 keeps : Keeps L D.m n0 H Hk
 lt : ∀ p ∈ Hk, p.1 < k
 le : n0 ≤ k
def pD1 (D : Lin.Tab) (i j x : Nat) : Lin.Tab := { D with cel := fun a b => if a = i then (if b < x then (if b = j then 1 else D.cel i b) / D.cel i j else if b = j then 1 else D.cel i b) else D.cel a b }
def pvI1 (L : Blk) (D : Lin.Tab) (i j b7 : Nat) (kv : PV) (H : List (Nat × Ent)) (Z : List Nat) (n0 : Nat) : Nat → List PV → St → Prop := fun w vs st => ∃ (x k : Nat) (Hk : List (Nat × Ent)), vs = [.int .i64 (x : Int), .own (L.r i) 0 D.n, .int .i64 (D.n : Int), .ptr b7 0 0, .ptr L.t 0 0, .int .i64 (i : Int), .int .i64 (j : Int)] ∧ x + w = D.n ∧
 Mid L n0 H (pD1 D i j x) k Hk ∧ Go.Pi.look Hk b7 = some ⟨4, [kv]⟩ ∧ st = ⟨k, Hk, Z⟩
def nrow (D : Lin.Tab) (i j y : Nat) : Rat := (if y = j then 1 else D.cel i y) / D.cel i j
def pD2 (D : Lin.Tab) (i j a : Nat) : Lin.Tab := { D with
 con := fun x => if x = i then D.con i / D.cel i j else if x < a then D.con x - D.cel x j * (D.con i / D.cel i j) else D.con x
 cel := fun x y => if x = i then nrow D i j y else if x < a then (if y = j then 0 else D.cel x y) - D.cel x j * nrow D i j y else D.cel x y }
theorem pD2_con {D : Lin.Tab} {i j a x : Nat} (h : a = i ∨ D.cel a j = 0) : (pD2 D i j (a + 1)).con x = (pD2 D i j a).con x := by
 simp only [pD2]
 by_cases hx : x = i
 ·rw [if_pos hx, if_pos hx]
 ·rw [if_neg hx, if_neg hx]
  by_cases h1 : x < a
  ·rw [if_pos h1, if_pos (by omega)]
  ·rw [if_neg h1]
   by_cases h2 : x = a
   ·subst h2
    rw [if_pos (by omega)]
    rcases h with h | h
    ·exact absurd h hx
    ·rw [h]; grind
   ·rw [if_neg (by omega)]
theorem pD2_cel {D : Lin.Tab} {i j a x y : Nat} (h : a = i ∨ D.cel a j = 0) : (pD2 D i j (a + 1)).cel x y = (pD2 D i j a).cel x y := by
 simp only [pD2]
 by_cases hx : x = i
 ·rw [if_pos hx, if_pos hx]
 ·rw [if_neg hx, if_neg hx]
  by_cases h1 : x < a
  ·rw [if_pos h1, if_pos (by omega)]
  ·rw [if_neg h1]
   by_cases h2 : x = a
   ·subst h2
    rw [if_pos (by omega)]
    rcases h with h | h
    ·exact absurd h hx
    ·rw [h]
     by_cases hy : y = j
     ·rw [if_pos hy, hy, h]; grind
     ·rw [if_neg hy]; grind
   ·rw [if_neg (by omega)]
theorem pD2_con' {D : Lin.Tab} {i j a x : Nat} (h : a ≠ i) : (pD2 D i j (a + 1)).con x = if x = a then D.con a - D.cel a j * (D.con i / D.cel i j) else (pD2 D i j a).con x := by
 simp only [pD2]
 by_cases hx : x = i
 ·rw [if_pos hx, if_pos hx, if_neg (by omega)]
 ·rw [if_neg hx, if_neg hx]
  by_cases h2 : x = a
  ·rw [if_pos h2, if_pos (by omega), h2]
  ·rw [if_neg h2]
   by_cases h1 : x < a
   ·rw [if_pos h1, if_pos (by omega)]
   ·rw [if_neg h1, if_neg (by omega)]
theorem pD2_cel' {D : Lin.Tab} {i j a x y : Nat} (h : a ≠ i) : (pD2 D i j (a + 1)).cel x y = if x = a then (if y = j then 0 else D.cel a y) - D.cel a j * nrow D i j y else (pD2 D i j a).cel x y := by
 simp only [pD2]
 by_cases hx : x = i
 ·rw [if_pos hx, if_pos hx, if_neg (by omega)]
 ·rw [if_neg hx, if_neg hx]
  by_cases h2 : x = a
  ·rw [if_pos h2, if_pos (by omega), h2]
  ·rw [if_neg h2]
   by_cases h1 : x < a
   ·rw [if_pos h1, if_pos (by omega)]
   ·rw [if_neg h1, if_neg (by omega)]
theorem pD3_con {D : Lin.Tab} {i j x : Nat} (hx : x < D.m) : (D.pivot i j).con x = (pD2 D i j D.m).con x := by
 simp only [pD2, Lin.Tab.pivot, if_pos hx]
theorem pD3_cel {D : Lin.Tab} {i j x y : Nat} (hx : x < D.m) : (D.pivot i j).cel x y = (pD2 D i j D.m).cel x y := by
 simp only [pD2, Lin.Tab.pivot, if_pos hx, nrow]
def pvI2 (L : Blk) (D : Lin.Tab) (i j : Nat) (H : List (Nat × Ent)) (Z : List Nat) (n0 : Nat) : Nat → List PV → St → Prop := fun w vs st => ∃ (a k : Nat) (Hk : List (Nat × Ent)), vs = [.int .i64 (a : Int), .ptr L.t 0 0, .int .i64 (j : Int), .int .i64 (i : Int), .int .i64 (D.m : Int), .own (L.r i) 0 D.n, .own L.g 0 D.m] ∧ a + w = D.m ∧
 Mid L n0 H (pD2 D i j a) k Hk ∧ st = ⟨k, Hk, Z⟩
def pD3 (D : Lin.Tab) (i j : Nat) : Lin.Tab := { D.pivot i j with bas := D.bas, off := D.off }
def pvQ (L : Blk) (D : Lin.Tab) (i j : Nat) (H : List (Nat × Ent)) (Z : List Nat) (n0 : Nat) : PV → St → Prop := fun v st => v = .tuple [] ∧ ∃ k Hk, Mid L n0 H (D.pivot i j) k Hk ∧ st = ⟨k, Hk, Z⟩
theorem pivot_own {S : Specs} (hS1 : Go.Pi.look S 30 = some rsignR) (hS2 : Go.Pi.look S 59 = some rmulR) (hS3 : Go.Pi.look S 80 = some rsubR) (hS4 : Go.Pi.look S 54 = some rfromR) (hS5 : Go.Pi.look S 120 = some quotientR) (hS6 : Go.Pi.look S 104 = none)
  (L : Blk) (D : Lin.Tab) (i j n0 : Nat) (H : List (Nat × Ent)) (Z : List Nat) (hi : i < D.m) (hj : j < D.n) (hm : D.m < 1000) (hn : D.n < 1000) (ap : L.Apart D.m) (hb : ∀ q, L.In D.m q → q < n0 ∧ memB Z q = false) (hz0 : ∀ b, n0 ≤ b → memB Z b = false) (hF : ∀ p ∈ H, p.1 < n0)
  (hD : TabAt L H D) (hc : D.cel i j ≠ 0) (fd : TFits D 15000) (fp : TFits (D.pivot i j) 15000) :
  CallW prog (specEnv prog G S) G A1 86 [.ptr L.t 0 0, .int .i64 i, .int .i64 j] ⟨n0, H, Z⟩ (pvQ L D i j H Z n0) := by
 have mp : 0 < D.m := by omega
 have np : 0 < D.n := by omega
 have inT := hb L.t (.inl rfl)
 have inB := hb L.b (.inr (.inl rfl))
 have inO := hb L.o (.inr (.inr (.inl rfl)))
 have inC := hb L.c (.inr (.inr (.inr (.inl rfl))))
 have inG := hb L.g (.inr (.inr (.inr (.inr (.inl rfl)))))
 have inP := hb L.p (.inr (.inr (.inr (.inr (.inr (.inl rfl))))))
 have inR : ∀ x, x < D.m → L.r x < n0 ∧ memB Z (L.r x) = false := fun x hx => hb _ (.inr (.inr (.inr (.inr (.inr (.inr ⟨x, hx, rfl⟩))))))
 refine callW_of ann86 func86 rfl (by kernel_rfl) ?_
 obtain ⟨vb, vm, vc, vu, tt, tv⟩ := hD.tt
 simp only [slv_pos mp, slv_pos np] at tt
 obtain ⟨esg, g1, g2, g3⟩ := hD.gg mp
 have g4 := g3 i hi
 obtain ⟨esi, r1, r2⟩ := hD.rr i hi
 obtain ⟨b, m, c, u, d, k1, k2, k3, k4⟩ := r2.get hj
 obtain ⟨c1, c2, c3, c4, c5⟩ := k3.cell
 obtain ⟨e1, e2, e3, e4, e5⟩ := k4.cell
 have k1' := getE k1
 have n71 : ¬ L.t = L.r i := (ap.r i hi).1
 have ro := inR i hi
 obtain ⟨b7, hb7⟩ : ∃ b, b = n0 + 1 + 1 + 1 + 1 + 1 + 1 + 1 + 1 + 1 + 1 + 1 + 1 + 1 + 1 + 1 + 1 + 1 := ⟨_, rfl⟩
 have z7 := hz0 b7 (by omega)
 have z7' := z7
 have m7r : ¬ L.r i = b7 := by omega
 have m7g : ¬ L.g = b7 := by omega
 have m7t : ¬ L.t = b7 := by omega
 rw [hb7] at z7' m7r m7g m7t
 simp [run_draw, logOk, tb, tt, g1, g4, r1, k1, c1, e1, hi, hj, z7', m7r, m7g, m7t]
 rw [← hb7]
 have n7t : ¬ b7 = L.t := by omega
 have n7r : ¬ b7 = L.r i := by omega
 refine callK_pure hS4 rfl (rfrom_ok 1 (by omega)) fun r hr => ?_
 simp only [rfromR] at hr
 have hr' := hr
 obtain ⟨b1, m1, cc1, u1, d1, rfl, p1, p2, _⟩ := hr'.cases
 obtain ⟨p11, p12, p13, p14, p15⟩ := p1.cell
 obtain ⟨p21, p22, p23, p24, p25⟩ := p2.cell
 have q1 : (IsRat (.agg [.bool b1, m1, .bool cc1, u1]) 1) := hr
 have esl := r2.len
 simp [lenPV, r1, k1', hj, p11, p21, n7r, ro.2, esl]
 have c0 : (D.cel i j).num ≠ 0 := fun h => hc ((num_zero _).2 h)
 have fr : ∀ y, y < D.n → RFits (if y = j then 1 else D.cel i y) 15000 := fun y hy => by
  by_cases h : y = j
  ·rw [if_pos h]; exact RFits.one (by omega)
  ·rw [if_neg h]; exact fd.cel i y hi hy
 refine loopK_of (pvI1 L D i j b7 (.agg [.bool b, m, .bool c, u]) H Z n0) rfl rfl ?step1 D.n _ _ ?init1
 case init1 =>
  refine ⟨0, b7 + 1 + 1 + 1 + 1 + 1 + 1 + 1 + 1 + 1 + 1 + 1, _, rfl, by omega, ⟨?_, ?_, ?_, by omega⟩, by simp [Go.Pi.look], rfl⟩
  ·have t1 := hD.setRow ap hi np (es := esi.set j (.agg [.bool b1, m1, .bool cc1, u1])) (r2.set q1) rfl
   refine (t1.congr (D' := pD1 D i j 0) rfl rfl (fun _ _ => rfl) (fun _ _ => rfl) (fun _ _ => rfl) (fun x y _ _ => ?_) (fun _ _ => rfl) rfl).cons (lt_mono (upd_lt hF) (by omega))
   simp [pD1]
  ·exact (Keeps.rfl'.upd (.inr (.inr (.inr (.inr (.inr (.inr (.inr ⟨i, hi, rfl⟩)))))))).cons (by omega)
  ·exact cons_lt (upd_lt hF) (by omega) (by omega)
 case step1 =>
 clear tt g1 g2 g3 g4 r1 r2 k1 k1' hr hr' q1 p11 p12 p13 p14 p15 p21 p22 p23 p24 p25 esl p1 p2
 rintro w vs st ⟨x, k, Hk, rfl, hxw, mid, lk7, rfl⟩
 have kn := mid.le
 have ckv : IsRat (.agg [.bool b, m, .bool c, u]) (D.cel i j) := k2
 rcases Nat.eq_zero_or_pos w with h0 | h0
 ·obtain rfl : x = D.n := by omega
  obtain ⟨vb, vm, vc, vu, tt, tv⟩ := mid.tab.tt
  rw [show (pD1 D i j D.n).m = D.m from rfl, show (pD1 D i j D.n).n = D.n from rfl] at tt
  simp only [slv_pos mp, slv_pos np] at tt
  obtain ⟨esc, q1, q2⟩ := mid.tab.cc mp
  have q2 : RV esc D.m D.con := q2
  obtain ⟨b2, m2, cc2, u2, d2, g1, g2, g3, g4⟩ := q2.get hi
  obtain ⟨x1, x2, x3, x4, x5⟩ := g3.cell
  obtain ⟨y1, y2, y3, y4, y5⟩ := g4.cell
  have g1' := getE g1
  have esl := q2.len
  have n7c : ¬ b7 = L.c := by omega
  have m7c : ¬ L.c = b7 := by omega
  have m7t : ¬ L.t = b7 := by omega
  have ntc : ¬ L.t = L.c := ap.tc
  have nct : ¬ L.c = L.t := Ne.symm ap.tc
  simp [run_draw, tt, q1, g1, hi, lk7]
  refine dcallK_pure hS5 (by simp [PV.pureL, g2.pure, ckv.pure]) (quotient_ok _ _ _ _ g2 ckv c0 ((fd.con i hi).mono (by omega)) ((fd.cel i j hi hj).mono (by omega))) fun r hr => ?_
  simp only [quotientR, ratv_eq g2, ratv_eq ckv] at hr
  have hr' := hr
  obtain ⟨b3, m3, cc3, u3, d3, rfl, p1, p2, _⟩ := hr'.cases
  obtain ⟨p11, p12, p13, p14, p15⟩ := p1.cell
  obtain ⟨p21, p22, p23, p24, p25⟩ := p2.cell
  have lt' : ∀ e, Go.Pi.look (upd Hk L.c e) L.t = some ⟨10, [.agg [.int .i64 D.n, .own L.b 0 D.m, .own L.o 0 D.n, .own L.c 0 D.m, .own L.g 0 D.m, .own L.p 0 D.n, .bool vb, vm, .bool vc, vu]]⟩ := fun e => by rw [look_upd_ne nct]; exact tt
  simp [logOk, tb, lenPV, q1, g1', hi, p11, p21, x2, y2, c2, e2, n7c, ntc, inC.2, esl, lt']
  refine loopK_of (pvI2 L D i j H Z n0) rfl rfl ?step2 D.m _ _ ?init2
  case init2 =>
   refine ⟨0, _, _, rfl, by omega, ⟨?_, ?_, ?_, ?_⟩, rfl⟩
   ·have t1 := mid.tab.setCon ap mp (es := esc.set i (.agg [.bool b3, m3, .bool cc3, u3])) (q2.set hr) rfl
    refine t1.congr (D' := pD2 D i j 0) rfl rfl (fun _ _ => rfl) (fun _ _ => rfl) (fun x _ => ?_) (fun a y _ hy => ?_) (fun _ _ => rfl) rfl
    ·by_cases hx : x = i
     ·simp only [pD2, if_pos hx]
     ·simp [pD2, if_neg hx]
    ·by_cases ha : a = i
     ·have hy' : y < D.n := hy
      simp only [pD2, pD1, if_pos ha, nrow, if_pos hy']
     ·simp [pD2, pD1, if_neg ha]
   ·exact mid.keeps.upd (.inr (.inr (.inr (.inr (.inl rfl)))))
   ·exact upd_lt (lt_mono mid.lt (by omega))
   ·omega
  case step2 =>
  clear q1 q2 g1 g2 g3 g4 x1 x2 x3 x4 x5 y1 y2 y3 y4 y5 g1' esl lt' hr hr' p1 p2 p11 p12 p13 p14 p15 p21 p22 p23 p24 p25 lk7 mid tt tv
  clear hxw
  rintro w vs st ⟨a, k, Hk, rfl, haw, mid, rfl⟩
  have kn := mid.le
  obtain ⟨vb, vm, vc, vu, tt, tv⟩ := mid.tab.tt
  rw [show (pD2 D i j a).m = D.m from rfl, show (pD2 D i j a).n = D.n from rfl] at tt
  simp only [slv_pos mp, slv_pos np] at tt
  rcases Nat.eq_zero_or_pos w with h0 | h0
  ·obtain rfl : a = D.m := by omega
   obtain ⟨esp, q1, q2⟩ := mid.tab.pp np
   have q2 : RV esp D.n D.top := q2
   obtain ⟨b2, m2, cc2, u2, d2, l1, l2, l3, l4⟩ := q2.get hj
   obtain ⟨x1, x2, x3, x4, x5⟩ := l3.cell
   obtain ⟨y1, y2, y3, y4, y5⟩ := l4.cell
   have l1' := getE l1
   have espl := q2.len
   obtain ⟨b12, hb12⟩ : ∃ b, b = k + 1 + 1 + 1 + 1 + 1 + 1 + 1 + 1 := ⟨_, rfl⟩
   have z12 := hz0 b12 (by omega)
   have z12' := z12
   rw [hb12] at z12'
   have n12t : ¬ b12 = L.t := by omega
   have m12t : ¬ L.t = b12 := by omega
   have n12p : ¬ b12 = L.p := by omega
   have m12p : ¬ L.p = b12 := by omega
   have n12c : ¬ b12 = L.c := by omega
   have m12c : ¬ L.c = b12 := by omega
   have n12i : ¬ b12 = L.r i := by omega
   simp [tt, q1, l1, hj, x1, y1, z12']
   rw [← hb12]
   refine callK_pure hS1 (by simp [PV.pureL, l2.pure]) (rsign_ok _ _ l2) fun r hr => ?_
   simp only [rsignR, ratv_eq l2] at hr
   subst hr
   by_cases hf0 : D.top j = 0
   ·have hs : ((D.top j).num.sign != 0) = false := by rw [num_sign_ne]; simp [hf0]
    simp [hs]
    refine (?gen : ∀ (k : Nat) (Hk : List (Nat × Ent)), Mid L n0 H (pD3 D i j) k Hk → run prog (specEnv prog G S) G A1 _ _ ⟨k, Hk, Z⟩ _ _) _ _ ?mid
    case gen =>
     intro k Hk mid
     have kn := mid.le
     obtain ⟨vb, vm, vc, vu, tt, tv⟩ := mid.tab.tt
     rw [show (pD3 D i j).m = D.m from rfl, show (pD3 D i j).n = D.n from rfl] at tt
     simp only [slv_pos mp, slv_pos np] at tt
     obtain ⟨esb, f1, f2⟩ := mid.tab.bb mp
     obtain ⟨eso, f3, f4⟩ := mid.tab.oo np
     have f2 : NV esb D.m D.bas := f2
     have f4 : NV eso D.n D.off := f4
     have b1 := f2.at_ i hi
     have o1 := f4.at_ j hj
     have b1' := getE b1
     have o1' := getE o1
     have lb := f2.len
     have lo := f4.len
     have nbo : ¬ L.b = L.o := ap.bo
     have nob : ¬ L.o = L.b := Ne.symm ap.bo
     have lo' : ∀ E, Go.Pi.look (Go.Pi.upd Hk L.b E) L.o = some ⟨1, eso⟩ := fun E => by rw [look_upd_ne ap.bo]; exact f3
     have lt' : ∀ E, Go.Pi.look (Go.Pi.upd Hk L.b E) L.t = Go.Pi.look Hk L.t := fun E => by rw [look_upd_ne (Ne.symm ap.tb)]
     simp [run_draw, tt, f1, f3, b1', o1', hi, hj, lb, lo, lo', inB.2, inO.2]
     refine ⟨logOk_free (by simp only [List.map_cons, List.map_nil, tri, List.isEmpty_nil, List.isEmpty_cons]; decide +kernel), rfl, _, _, ⟨?_, ?_, ?_, ?_⟩, rfl⟩
     ·have t1 := mid.tab.setBas ap mp (f2.set (k := i) (v := D.off j)) rfl
      have t2 := t1.setOff ap np (f4.set (k := j) (v := D.bas i)) rfl
      exact t2.congr rfl rfl (fun _ _ => rfl) (fun _ _ => rfl) (fun _ _ => rfl) (fun _ _ _ _ => rfl) (fun _ _ => rfl) rfl
     ·exact (mid.keeps.upd (.inr (.inr (.inl rfl)))).upd (.inr (.inr (.inr (.inl rfl))))
     ·exact upd_lt (upd_lt (lt_mono mid.lt (by omega)))
     ·omega
    case mid =>
     refine ⟨?_, mid.keeps.cons (by omega), ?_, ?_⟩
     ·refine (mid.tab.congr (D' := pD3 D i j) rfl rfl (fun _ _ => rfl) (fun _ _ => rfl) (fun x hx => ?_) (fun x y hx _ => ?_) (fun y _ => ?_) ?_).cons (lt_mono mid.lt (by omega))
      ·exact pD3_con hx
      ·exact pD3_cel hx
      ·show (if y = j then 0 else D.top y) - D.top j * _ = D.top y
       rw [hf0]
       by_cases hy : y = j
       ·rw [if_pos hy, hy, hf0]; grind
       ·rw [if_neg hy]; grind
      ·show D.val - D.top j * _ = D.val
       rw [hf0]; grind
     ·exact cons_lt mid.lt (by omega) (by omega)
     ·omega
   ·have hs : ((D.top j).num.sign != 0) = true := by rw [num_sign_ne]; simp [hf0]
    have ltp : ∀ E, Go.Pi.look (Go.Pi.upd Hk L.p E) L.t = some ⟨10, [.agg [.int .i64 D.n, .own L.b 0 D.m, .own L.o 0 D.n, .own L.c 0 D.m, .own L.g 0 D.m, .own L.p 0 D.n, .bool vb, vm, .bool vc, vu]]⟩ := fun E => by rw [look_upd_ne (Ne.symm ap.tp)]; exact tt
    have lcp : ∀ E, Go.Pi.look (Go.Pi.upd Hk L.p E) L.c = Go.Pi.look Hk L.c := fun E => by rw [look_upd_ne (Ne.symm ap.cp)]
    simp [run_draw, logOk, tb, hs, tt, q1, l1', hj, n12t, n12p, espl, inP.2, ltp]
    obtain ⟨esi2, ri1, ri2⟩ := mid.tab.rr i hi
    have rz := isRat_zero
    unfold ratZero at rz
    have gi : ∀ y, (pD2 D i j D.m).cel i y = nrow D i j y := fun y => by simp [pD2]
    have npi : L.p ≠ L.r i := (ap.r i hi).2.2.2.2.2
    refine callK_run (by simp only [specEnv, hS6]; rfl) ((less_own hS1 hS2 hS3 L.p (L.r i) D.n _ esi2 (fun y => if y = j then 0 else D.top y) (nrow D i j) _ (D.top j) _ _ Z (by simp [Go.Pi.look, beq_lit, n12p]; exact look_upd_same q1) (by simp [Go.Pi.look, beq_lit, n12i]; rw [look_upd_ne npi]; exact ri1) (q2.set rz) (ri2.congr fun y _ => gi y) npi hn ⟨by have := inP.1; omega, by have := ro.1; omega⟩ inP.2 (fun q hq => hz0 q (by omega)) l2 ((fd.top j hj).mono (by omega)) (fun y hy => ?_) (fun y hy => ?_)).mono fun v st h => ?_)
    ·by_cases h : y = j
     ·rw [if_pos h]; exact RFits.zero (by omega)
     ·rw [if_neg h]; exact (fd.top y hy).mono (by omega)
    ·have := (fp.cel i y hi hy).mono (l := 30000) (by omega)
     simpa [Lin.Tab.pivot, nrow] using this
    obtain ⟨rfl, k5, b5, fe, esn, rvn, hb5, hk5, rfl⟩ := h
    have hu : ∀ E X Y, Go.Pi.upd ((b12, E) :: Go.Pi.upd Hk L.p X) L.p Y = (b12, E) :: Go.Pi.upd Hk L.p Y := fun E X Y => by simp [Go.Pi.upd, beq_lit, n12p, upd_upd]
    rw [hu]
    have n5b : ¬ b5 = b12 := by omega
    have n5t : ¬ b5 = L.t := by omega
    have n5c : ¬ b5 = L.c := by omega
    have z5 := hz0 b5 (by omega)
    obtain ⟨esc, c1', q2'⟩ := mid.tab.cc mp
    have q2' : RV esc D.m (pD2 D i j D.m).con := q2'
    have ci : (pD2 D i j D.m).con i = D.con i / D.cel i j := by simp [pD2]
    obtain ⟨b7', m7, cc7, u7, d7, s1, s2, s3, s4⟩ := q2'.get hi
    rw [ci] at s2 s3
    obtain ⟨s31, s32, s33, s34, s35⟩ := s3.cell
    obtain ⟨s41, s42, s43, s44, s45⟩ := s4.cell
    have s1' := getE s1
    have tv : IsRat (.agg [.bool vb, vm, .bool vc, vu]) D.val := tv
    have tvc := tv.cases
    obtain ⟨_, _, _, _, _, he, w1, w2, _⟩ := tvc
    simp only [PV.agg.injEq, List.cons.injEq, PV.bool.injEq, and_true] at he
    obtain ⟨rfl, rfl, rfl, rfl⟩ := he
    obtain ⟨w11, w12, w13, w14, w15⟩ := w1.cell
    obtain ⟨w21, w22, w23, w24, w25⟩ := w2.cell
    have fci : RFits (D.con i / D.cel i j) 15000 := by simpa [Lin.Tab.pivot] using fp.con i hi
    simp [run_draw, n12t, n12c, n5b, n5t, n5c, ltp, lcp, c1', s1, hi]
    refine dcallK_pure hS2 (by simp [PV.pureL, l2.pure, s2.pure]) (rmul_ok _ _ _ _ l2 s2 ((fd.top j hj).mono (by omega)) (fci.mono (by omega))) fun r hr => ?_
    simp only [rmulR, ratv_eq l2, ratv_eq s2] at hr
    simp []
    refine dcallK_pure hS3 (by simp [PV.pureL, tv.pure, hr.pure]) (rsub_ok _ _ _ _ tv hr (fd.val.mono (by omega)) (((fd.top j hj).mul fci).mono (by omega))) fun r9 hr9 => ?_
    simp only [rsubR, ratv_eq tv, ratv_eq hr] at hr9
    obtain ⟨b8, m8, cc8, u8, d8, rfl, t1, t2, _⟩ := hr.cases
    obtain ⟨t11, t12, t13, t14, t15⟩ := t1.cell
    obtain ⟨t21, t22, t23, t24, t25⟩ := t2.cell
    have hr9' := hr9
    obtain ⟨b9, m9, cc9, u9, d9, rfl, v1, v2, _⟩ := hr9'.cases
    obtain ⟨v11, v12, v13, v14, v15⟩ := v1.cell
    obtain ⟨v21, v22, v23, v24, v25⟩ := v2.cell
    simp [n12t, n5t, ltp, s32, s42, x2, y2, w12, w22, t12, t22, v11, v21, inT.2]
    refine ⟨logOk_free (by simp only [List.map_cons, List.map_nil, tri, List.isEmpty_nil, List.isEmpty_cons]; decide +kernel), ?_⟩
    refine (?gen : ∀ (k : Nat) (Hk : List (Nat × Ent)), Mid L n0 H (pD3 D i j) k Hk → run prog (specEnv prog G S) G A1 _ _ ⟨k, Hk, Z⟩ _ _) _ _ ?mid
    case gen =>
     intro k Hk mid
     have kn := mid.le
     obtain ⟨vb, vm, vc, vu, tt, tv⟩ := mid.tab.tt
     rw [show (pD3 D i j).m = D.m from rfl, show (pD3 D i j).n = D.n from rfl] at tt
     simp only [slv_pos mp, slv_pos np] at tt
     obtain ⟨esb, f1, f2⟩ := mid.tab.bb mp
     obtain ⟨eso, f3, f4⟩ := mid.tab.oo np
     have f2 : NV esb D.m D.bas := f2
     have f4 : NV eso D.n D.off := f4
     have b1 := f2.at_ i hi
     have o1 := f4.at_ j hj
     have b1' := getE b1
     have o1' := getE o1
     have lb := f2.len
     have lo := f4.len
     have nbo : ¬ L.b = L.o := ap.bo
     have nob : ¬ L.o = L.b := Ne.symm ap.bo
     have lo' : ∀ E, Go.Pi.look (Go.Pi.upd Hk L.b E) L.o = some ⟨1, eso⟩ := fun E => by rw [look_upd_ne ap.bo]; exact f3
     have lt' : ∀ E, Go.Pi.look (Go.Pi.upd Hk L.b E) L.t = Go.Pi.look Hk L.t := fun E => by rw [look_upd_ne (Ne.symm ap.tb)]
     simp [run_draw, tt, f1, f3, b1', o1', hi, hj, lb, lo, lo', inB.2, inO.2]
     refine ⟨logOk_free (by simp only [List.map_cons, List.map_nil, tri, List.isEmpty_nil, List.isEmpty_cons]; decide +kernel), rfl, _, _, ⟨?_, ?_, ?_, ?_⟩, rfl⟩
     ·have t1 := mid.tab.setBas ap mp (f2.set (k := i) (v := D.off j)) rfl
      have t2 := t1.setOff ap np (f4.set (k := j) (v := D.bas i)) rfl
      exact t2.congr rfl rfl (fun _ _ => rfl) (fun _ _ => rfl) (fun _ _ => rfl) (fun _ _ _ _ => rfl) (fun _ _ => rfl) rfl
     ·exact (mid.keeps.upd (.inr (.inr (.inl rfl)))).upd (.inr (.inr (.inr (.inl rfl))))
     ·exact upd_lt (upd_lt (lt_mono mid.lt (by omega)))
     ·omega
    case mid =>
     refine ⟨?_, ?_, ?_, ?_⟩
     ·have t1 := mid.tab.setTop ap np rvn rfl
      have t2 := t1.setVal ap hr9 rfl
      have sb : ∀ r, slv r (pD2 D i j D.m).m = .own r 0 D.m := fun r => slv_pos mp
      have sn : ∀ r, slv r (pD2 D i j D.m).n = .own r 0 D.n := fun r => slv_pos np
      rw [sb, sn, sb, sb, sn] at t2
      refine ((t2.congr (D' := pD3 D i j) rfl rfl (fun _ _ => rfl) (fun _ _ => rfl) (fun x hx => ?_) (fun x y hx _ => ?_) (fun y _ => rfl) rfl).cons (j := b12) (upd_lt (upd_lt (lt_mono mid.lt (by omega))))).cons (j := b5) (cons_lt (upd_lt (upd_lt mid.lt)) (by omega) (by omega))
      ·exact pD3_con hx
      ·exact pD3_cel hx
     ·exact (((mid.keeps.upd (.inr (.inr (.inr (.inr (.inr (.inr (.inl rfl)))))))).upd (.inr (.inl rfl))).cons (by omega)).cons (by omega)
     ·exact cons_lt (cons_lt (upd_lt (upd_lt mid.lt)) (m := k5) (by omega) (by omega)) (by omega) (by omega)
     ·omega
  ·have ha : a < D.m := by omega
   have haa : (a : Int) < D.m := by omega
   obtain ⟨esg, g1, g2, g3⟩ := mid.tab.gg mp
   have g4 : esg[a]? = some (.own (L.r a) 0 D.n) := g3 a ha
   have wa : IntKind.i64.wrap ((a : Int) + 1) = ((a + 1 : Nat) : Int) := w_i64 (by omega)
   by_cases hai : a = i
   ·subst hai
    simp [g1, g4, ha, haa, wa]
    refine ⟨w - 1, by omega, a + 1, _, Hk, rfl, by omega, ⟨mid.tab.congr rfl rfl (fun _ _ => rfl) (fun _ _ => rfl) (fun x _ => ?_) (fun x y _ _ => ?_) (fun _ _ => rfl) rfl, mid.keeps, lt_mono mid.lt (by omega), by omega⟩, rfl⟩
    ·exact pD2_con (.inl rfl)
    ·exact pD2_cel (.inl rfl)
   ·have hai' : ((a : Int) != i) = true := by simp; omega
    have hai2 : ¬ (a : Int) = i := by omega
    obtain ⟨esa, r1, r2⟩ := mid.tab.rr a ha
    obtain ⟨b2, m2, cc2, u2, d2, l1, l2, l3, l4⟩ := r2.get hj
    have ev : ∀ y, (pD2 D i j a).cel a y = D.cel a y := fun y => by simp [pD2, if_neg hai]
    rw [ev] at l2 l3
    obtain ⟨x1, x2, x3, x4, x5⟩ := l3.cell
    obtain ⟨y1, y2, y3, y4, y5⟩ := l4.cell
    simp [g1, g4, ha, haa, hai', r1, l1, hj]
    refine callK_pure hS1 (by simp [PV.pureL, l2.pure]) (rsign_ok _ _ l2) fun r hr => ?_
    simp only [rsignR, ratv_eq l2] at hr
    subst hr
    by_cases hf0 : D.cel a j = 0
    ·have hs : ((D.cel a j).num.sign != 0) = false := by rw [num_sign_ne]; simp [hf0]
     simp [hs, wa]
     refine ⟨w - 1, by omega, a + 1, _, Hk, rfl, by omega, ⟨mid.tab.congr rfl rfl (fun _ _ => rfl) (fun _ _ => rfl) (fun x _ => ?_) (fun x y _ _ => ?_) (fun _ _ => rfl) rfl, mid.keeps, lt_mono mid.lt (by omega), by omega⟩, rfl⟩
     ·exact pD2_con (.inr hf0)
     ·exact pD2_cel (.inr hf0)
    ·have hs : ((D.cel a j).num.sign != 0) = true := by rw [num_sign_ne]; simp [hf0]
     obtain ⟨b11, hb11⟩ : ∃ b, b = k + 1 + 1 + 1 + 1 + 1 + 1 + 1 + 1 + 1 + 1 + 1 + 1 + 1 + 1 + 1 + 1 + 1 + 1 + 1 + 1 + 1 := ⟨_, rfl⟩
     have z11 := hz0 b11 (by omega)
     have l1' := getE l1
     have esl := r2.len
     have esl : esa.length = D.n := esl
     have ra := inR a ha
     have n11a : ¬ b11 = L.r a := by omega
     have m11a : ¬ L.r a = b11 := by omega
     have n11i : ¬ b11 = L.r i := by omega
     have n11t : ¬ b11 = L.t := by omega
     have m11t : ¬ L.t = b11 := by omega
     have n11c : ¬ b11 = L.c := by omega
     have m11c : ¬ L.c = b11 := by omega
     have nai : L.r a ≠ L.r i := fun h => hai (ap.rr _ _ ha hi h)
     have nat' : L.r a ≠ L.t := Ne.symm (ap.r a ha).1
     have nac : L.r a ≠ L.c := Ne.symm (ap.r a ha).2.2.2.1
     have nct : ¬ L.c = L.t := Ne.symm ap.tc
     have ntc : ¬ L.t = L.c := ap.tc
     have hgen : ∀ q : Nat, q = b11 → q = b11 := fun _ h => h
     have z11' := z11
     rw [hb11] at z11'
     simp [hs, r1, l1, hj, x1, y1, z11']
     rw [← hb11]
     simp [r1, l1', hj, n11a, ra.2, esl]
     obtain ⟨esi2, ri1, ri2⟩ := mid.tab.rr i hi
     have rz := isRat_zero
     unfold ratZero at rz
     have gi : ∀ y, (pD2 D i j a).cel i y = nrow D i j y := fun y => by simp [pD2]
     have bz := hz0
     refine callK_run (by simp only [specEnv, hS6]; rfl) ((less_own hS1 hS2 hS3 (L.r a) (L.r i) D.n _ esi2 (fun y => if y = j then 0 else D.cel a y) (nrow D i j) _ (D.cel a j) _ _ Z (by simp [Go.Pi.look, beq_lit, n11a]; exact look_upd_same r1) (by simp [Go.Pi.look, beq_lit, n11i]; rw [look_upd_ne nai]; exact ri1) ((r2.set rz).congr fun y _ => by rw [ev]) (ri2.congr fun y _ => gi y) nai hn ⟨by have := ra.1; omega, by have := ro.1; omega⟩ ra.2 (fun q hq => hz0 q (by omega)) l2 ((fd.cel a j ha hj).mono (by omega)) (fun y hy => ?_) (fun y hy => ?_)).mono fun v st h => ?_)
     ·by_cases h : y = j
      ·rw [if_pos h]; exact RFits.zero (by omega)
      ·rw [if_neg h]; exact (fd.cel a y ha hy).mono (by omega)
     ·have := (fp.cel i y hi hy).mono (l := 30000) (by omega)
      simpa [Lin.Tab.pivot, nrow] using this
     obtain ⟨rfl, k5, b5, fe, esn, rvn, hb5, hk5, rfl⟩ := h
     have hu : ∀ E X Y, Go.Pi.upd ((b11, E) :: Go.Pi.upd Hk (L.r a) X) (L.r a) Y = (b11, E) :: Go.Pi.upd Hk (L.r a) Y := fun E X Y => by simp [Go.Pi.upd, beq_lit, n11a, upd_upd]
     rw [hu]
     have n5b : ¬ b5 = b11 := by omega
     have n5t : ¬ b5 = L.t := by omega
     have n5c : ¬ b5 = L.c := by omega
     have z5 := hz0 b5 (by omega)
     obtain ⟨esc, q1, q2⟩ := mid.tab.cc mp
     have q2 : RV esc D.m (pD2 D i j a).con := q2
     have ca : (pD2 D i j a).con a = D.con a := by simp [pD2, hai]
     have ci : (pD2 D i j a).con i = D.con i / D.cel i j := by simp [pD2]
     obtain ⟨b6, m6, cc6, u6, d6, o1, o2, o3, o4⟩ := q2.get ha
     obtain ⟨b7', m7, cc7, u7, d7, s1, s2, s3, s4⟩ := q2.get hi
     rw [ca] at o2 o3
     rw [ci] at s2 s3
     obtain ⟨o31, o32, o33, o34, o35⟩ := o3.cell
     obtain ⟨o41, o42, o43, o44, o45⟩ := o4.cell
     obtain ⟨s31, s32, s33, s34, s35⟩ := s3.cell
     obtain ⟨s41, s42, s43, s44, s45⟩ := s4.cell
     have o1' := getE o1
     have s1' := getE s1
     have escl := q2.len
     have ltt : ∀ Y, Go.Pi.look (Go.Pi.upd Hk (L.r a) Y) L.t = some ⟨10, [.agg [.int .i64 D.n, .own L.b 0 D.m, .own L.o 0 D.n, .own L.c 0 D.m, .own L.g 0 D.m, .own L.p 0 D.n, .bool vb, vm, .bool vc, vu]]⟩ := fun Y => by rw [look_upd_ne nat']; exact tt
     have lcc : ∀ Y, Go.Pi.look (Go.Pi.upd Hk (L.r a) Y) L.c = some ⟨4, esc⟩ := fun Y => by rw [look_upd_ne nac]; exact q1
     simp [run_draw, n11t, n11c, n5b, n5t, n5c, ltt, lcc, o1, s1, ha, hi]
     refine dcallK_pure hS2 (by simp [PV.pureL, l2.pure, s2.pure]) (rmul_ok _ _ _ _ l2 s2 ((fd.cel a j ha hj).mono (by omega)) ?_) fun r hr => ?_
     ·have := (fp.con i hi).mono (l := 100000) (by omega)
      simpa [Lin.Tab.pivot] using this
     simp only [rmulR, ratv_eq l2, ratv_eq s2] at hr
     simp []
     refine dcallK_pure hS3 (by simp [PV.pureL, o2.pure, hr.pure]) (rsub_ok _ _ _ _ o2 hr ((fd.con a ha).mono (by omega)) ?_) fun r9 hr9 => ?_
     ·have h2 := (fp.con i hi)
      have h2 : RFits (D.con i / D.cel i j) 15000 := by simpa [Lin.Tab.pivot] using h2
      exact ((fd.cel a j ha hj).mul h2).mono (by omega)
     simp only [rsubR, ratv_eq o2, ratv_eq hr] at hr9
     obtain ⟨b8, m8, cc8, u8, d8, rfl, t1, t2, _⟩ := hr.cases
     obtain ⟨t11, t12, t13, t14, t15⟩ := t1.cell
     obtain ⟨t21, t22, t23, t24, t25⟩ := t2.cell
     have hr9' := hr9
     obtain ⟨b9, m9, cc9, u9, d9, rfl, w1, w2, _⟩ := hr9'.cases
     obtain ⟨w11, w12, w13, w14, w15⟩ := w1.cell
     obtain ⟨w21, w22, w23, w24, w25⟩ := w2.cell
     simp [wa, n11c, n5c, lcc, o1', ha, o32, o42, s32, s42, x2, y2, t12, t22, w11, w21, inC.2, escl]
     refine ⟨logOk_free (by simp only [List.map_cons, List.map_nil, tri, List.isEmpty_nil, List.isEmpty_cons]; decide +kernel), w - 1, by omega, a + 1, _, _, rfl, by omega, ⟨?_, ?_, ?_, ?_⟩, rfl⟩
     ·have t1 := mid.tab.setRow ap ha np rvn rfl
      have t2 := t1.setCon ap mp (q2.set (k := a) hr9) rfl
      refine (((t2.congr (D' := pD2 D i j (a + 1)) rfl rfl (fun _ _ => rfl) (fun _ _ => rfl) (fun x _ => ?_) (fun x y _ _ => ?_) (fun _ _ => rfl) rfl).cons (j := b11) (upd_lt (upd_lt (lt_mono mid.lt (by omega))))).cons (j := b5) (cons_lt (upd_lt (upd_lt mid.lt)) (by omega) (by omega)))
      ·rw [pD2_con' hai]
      ·rw [pD2_cel' hai]
     ·exact (((mid.keeps.upd (.inr (.inr (.inr (.inr (.inr (.inr (.inr ⟨a, ha, rfl⟩)))))))).upd (.inr (.inr (.inr (.inr (.inl rfl)))))).cons (by omega)).cons (by omega)
     ·exact cons_lt (cons_lt (upd_lt (upd_lt mid.lt)) (m := k5) (by omega) (by omega)) (by omega) (by omega)
     ·omega
 ·have hx : x < D.n := by omega
  have hxx : (x : Int) < D.n := by omega
  obtain ⟨esk, r1, r2⟩ := mid.tab.rr i hi
  obtain ⟨b2, m2, cc2, u2, d2, g1, g2, g3, g4⟩ := r2.get hx
  have ev : (pD1 D i j x).cel i x = if x = j then 1 else D.cel i x := by simp [pD1]
  rw [ev] at g2 g3
  obtain ⟨x1, x2, x3, x4, x5⟩ := g3.cell
  obtain ⟨y1, y2, y3, y4, y5⟩ := g4.cell
  have g1' := getE g1
  have esl := r2.len
  rw [show (pD1 D i j x).n = D.n from rfl] at esl
  have n7r : ¬ b7 = L.r i := by omega
  have m7r : ¬ L.r i = b7 := by omega
  have wx : IntKind.i64.wrap ((x : Int) + 1) = ((x + 1 : Nat) : Int) := w_i64 (by omega)
  simp [run_draw, hx, hxx, r1, g1, lk7]
  refine dcallK_pure hS5 (by simp [PV.pureL, g2.pure, ckv.pure]) (quotient_ok _ _ _ _ g2 ckv c0 ((fr x hx).mono (by omega)) ((fd.cel i j hi hj).mono (by omega))) fun r hr => ?_
  simp only [quotientR, ratv_eq g2, ratv_eq ckv] at hr
  have hr' := hr
  obtain ⟨b3, m3, cc3, u3, d3, rfl, p1, p2, _⟩ := hr'.cases
  obtain ⟨p11, p12, p13, p14, p15⟩ := p1.cell
  obtain ⟨p21, p22, p23, p24, p25⟩ := p2.cell
  simp [logOk, tb, hx, r1, g1', x2, y2, c2, e2, p11, p21, n7r, ro.2, esl, wx]
  refine ⟨w - 1, by omega, x + 1, _, _, rfl, by omega, ⟨?_, ?_, ?_, ?_⟩, ?_, rfl⟩
  ·have t1 := mid.tab.setRow ap hi np (es := esk.set x (.agg [.bool b3, m3, .bool cc3, u3])) (r2.set hr) rfl
   refine t1.congr (D' := pD1 D i j (x + 1)) rfl rfl (fun _ _ => rfl) (fun _ _ => rfl) (fun _ _ => rfl) (fun a y _ _ => ?_) (fun _ _ => rfl) rfl
   by_cases ha : a = i
   ·simp only [pD1, if_pos ha]
    by_cases hy : y = x
    ·rw [if_pos hy, if_pos (show y < x + 1 by omega), hy]
    ·rw [if_neg hy]
     by_cases hyx : y < x
     ·rw [if_pos hyx, if_pos (by omega), if_true]
     ·rw [if_neg hyx, if_neg (by omega), if_true]
   ·simp only [pD1, if_neg ha]
  ·exact mid.keeps.upd (.inr (.inr (.inr (.inr (.inr (.inr (.inr ⟨i, hi, rfl⟩)))))))
  ·exact upd_lt (lt_mono mid.lt (by omega))
  ·omega
  ·rw [look_upd_ne (Ne.symm n7r)]; exact lk7
def Least (P : Nat → Prop) (key : Nat → Nat) (x : Nat) (out : Int) : Prop := (out = -1 ∧ ∀ l, l < x → ¬ P l) ∨ ∃ o : Nat, out = o ∧ o < x ∧ P o ∧ ∀ l, l < x → P l → key o ≤ key l
theorem Least.zero {P : Nat → Prop} {key : Nat → Nat} : Least P key 0 (-1) := .inl ⟨rfl, fun l h => absurd h (Nat.not_lt_zero l)⟩
theorem Least.skip {P : Nat → Prop} {key : Nat → Nat} {x : Nat} {out : Int} (h : Least P key x out) (hx : P x → ∃ o : Nat, out = o ∧ key o ≤ key x) : Least P key (x + 1) out := by
 rcases h with ⟨rfl, h⟩ | ⟨o, rfl, h1, h2, h3⟩
 ·refine .inl ⟨rfl, fun l hl hp => ?_⟩
  rcases Nat.lt_or_ge l x with h4 | h4
  ·exact h l h4 hp
  ·obtain rfl : l = x := by omega
   obtain ⟨o, h5, _⟩ := hx hp
   omega
 ·refine .inr ⟨o, rfl, by omega, h2, fun l hl hp => ?_⟩
  rcases Nat.lt_or_ge l x with h4 | h4
  ·exact h3 l h4 hp
  ·obtain rfl : l = x := by omega
   obtain ⟨o', h5, h6⟩ := hx hp
   obtain rfl : o = o' := by omega
   exact h6
theorem Least.take {P : Nat → Prop} {key : Nat → Nat} {x : Nat} {out : Int} (h : Least P key x out) (hx : P x) (hk : out < 0 ∨ ∃ o : Nat, out = o ∧ key x < key o) : Least P key (x + 1) x := by
 refine .inr ⟨x, rfl, by omega, hx, fun l hl hp => ?_⟩
 rcases Nat.lt_or_ge l x with h4 | h4
 ·rcases h with ⟨rfl, h⟩ | ⟨o, rfl, h1, h2, h3⟩
  ·exact absurd hp (h l h4)
  ·rcases hk with hk | ⟨o', h5, h6⟩
   ·omega
   ·obtain rfl : o = o' := by omega
    have := h3 l h4 hp
    omega
 ·obtain rfl : l = x := by omega
  exact Nat.le_refl _
theorem sign_lt {q : Rat} : decide (q.num.sign < 0) = decide (q < 0) := by
 rw [Bool.eq_iff_iff, decide_eq_true_eq, decide_eq_true_eq, num_neg, Int.sign_neg_iff]
theorem sign_gt {q : Rat} : decide (q.num.sign > 0) = decide (0 < q) := by
 rw [Bool.eq_iff_iff, decide_eq_true_eq, decide_eq_true_eq, num_pos]
 constructor
 ·intro h; exact Int.sign_pos_iff.1 h
 ·intro h; exact Int.sign_pos_iff.2 h
def readQ (H : List (Nat × Ent)) (Z : List Nat) (n0 : Nat) (Q : PV → Prop) : PV → St → Prop := fun v st => Q v ∧ ∃ k, n0 ≤ k ∧ st = ⟨k, H, Z⟩
def enterI (L : Blk) (D : Lin.Tab) (i : Nat) (H : List (Nat × Ent)) (Z : List Nat) (n0 : Nat) : Nat → List PV → St → Prop := fun w vs st => ∃ (x k : Nat) (out : Int), vs = [.int .i64 (x : Int), .ptr L.t 0 0, .int .i64 out, .int .i64 (D.n : Int), slv L.o D.n, .int .i64 (i : Int)] ∧ x + w = D.n ∧
 Least (fun l => D.n ≤ D.off l ∧ D.cel i l < 0) D.off x out ∧ n0 ≤ k ∧ st = ⟨k, H, Z⟩
theorem entering_own {S : Specs} (hS1 : Go.Pi.look S 30 = some rsignR) (L : Blk) (D : Lin.Tab) (i n0 : Nat) (H : List (Nat × Ent)) (Z : List Nat) (hi : i < D.m) (hm : D.m < 1000) (hn : D.n < 1000) (hD : TabAt L H D) :
  CallW prog (specEnv prog G S) G A1 90 [.ptr L.t 0 0, .int .i64 i] ⟨n0, H, Z⟩ (readQ H Z n0 fun v => ∃ out, v = .int .i64 out ∧ Least (fun l => D.n ≤ D.off l ∧ D.cel i l < 0) D.off D.n out) := by
 have mp : 0 < D.m := by omega
 refine callW_of ann90 func90 rfl (by kernel_rfl) ?_
 obtain ⟨vb, vm, vc, vu, tt, tv⟩ := hD.tt
 have sl := (slv_ids L.o D.n).2.2.2
 have w1 : IntKind.i64.wrap (-1) = -1 := rfl
 simp [tt, sl]
 refine loopK_of (enterI L D i H Z n0) rfl rfl ?step D.n _ _ ?init
 case init => exact ⟨0, _, -1, rfl, by omega, Least.zero, by omega, rfl⟩
 case step =>
 rintro w vs st ⟨x, k, out, rfl, hxw, hl, hk, rfl⟩
 rcases Nat.eq_zero_or_pos w with h0 | h0
 ·obtain rfl : x = D.n := by omega
  simp []
  exact ⟨⟨out, rfl, hl⟩, _, by omega, rfl⟩
 ·have np : 0 < D.n := by omega
  have hx : x < D.n := by omega
  have hxx : (x : Int) < D.n := by omega
  have wx : IntKind.i64.wrap ((x : Int) + 1) = ((x + 1 : Nat) : Int) := w_i64 (by omega)
  obtain ⟨eso, f3, f4⟩ := hD.oo np
  have o1 := f4.at_ x hx
  obtain ⟨esg, g1, g2, g3⟩ := hD.gg mp
  have g4 : esg[i]? = some (.own (L.r i) 0 D.n) := g3 i hi
  obtain ⟨esi, r1, r2⟩ := hD.rr i hi
  obtain ⟨b2, m2, cc2, u2, d2, l1, l2, l3, l4⟩ := r2.get hx
  obtain ⟨x1, x2, x3, x4, x5⟩ := l3.cell
  obtain ⟨y1, y2, y3, y4, y5⟩ := l4.cell
  have so : slv L.o D.n = .own L.o 0 D.n := slv_pos np
  have sg' : slv L.g D.m = .own L.g 0 D.m := slv_pos mp
  rw [so]
  have next : ∀ out' : Int, Least (fun l => D.n ≤ D.off l ∧ D.cel i l < 0) D.off (x + 1) out' → ∀ k', n0 ≤ k' → ∃ m', m' < w ∧ enterI L D i H Z n0 m' [.int .i64 ((x + 1 : Nat) : Int), .ptr L.t 0 0, .int .i64 out', .int .i64 (D.n : Int), slv L.o D.n, .int .i64 (i : Int)] ⟨k', H, Z⟩ := fun out' h k' hk' => ⟨w - 1, by omega, x + 1, k', out', rfl, by omega, h, hk', rfl⟩
  rw [so] at next
  rcases Nat.lt_or_ge (D.off x) D.n with hA | hA
  ·have hA1 : ¬ (D.n : Int) ≤ (D.off x : Int) := by omega
   have hA2 : ¬ D.n ≤ D.off x := by omega
   simp [tt, f3, o1, hx, hxx, wx, hA1]
   exact next out (hl.skip fun h => absurd h.1 hA2) _ (by omega)
  ·have hA1 : (D.n : Int) ≤ (D.off x : Int) := by omega
   simp [tt, sg', f3, o1, hx, hxx, hi, hA1, g1, g4, r1, l1]
   refine callK_pure hS1 (by simp [PV.pureL, l2.pure]) (rsign_ok _ _ l2) fun r hr => ?_
   simp only [rsignR, ratv_eq l2] at hr
   subst hr
   by_cases hB : D.cel i x < 0
   ·have hB1 : (D.cel i x).num.sign < 0 := by have := sign_lt (q := D.cel i x); simpa [hB] using this
    rcases hl with ⟨rfl, hl'⟩ | ⟨o, rfl, ho, hl2, hl3⟩
    ·simp [hB1, wx]
     exact next x (Least.take (.inl ⟨rfl, hl'⟩) ⟨hA, hB⟩ (.inl (by omega))) _ (by omega)
    ·have ho1 : ¬ (o : Int) < 0 := by omega
     have hon : o < D.n := by omega
     have o2 := f4.at_ o hon
     rcases Nat.lt_or_ge (D.off x) (D.off o) with hC | hC
     ·have hC1 : (D.off x : Int) < (D.off o : Int) := by omega
      simp [tt, so, f3, o2, hon, hB1, wx, hC1, ho1]
      exact next x (Least.take (.inr ⟨o, rfl, ho, hl2, hl3⟩) ⟨hA, hB⟩ (.inr ⟨o, rfl, hC⟩)) _ (by omega)
     ·have hC1 : ¬ (D.off x : Int) < (D.off o : Int) := by omega
      have hC2 : ¬ D.off x < D.off o := by omega
      simp [tt, so, f3, o2, hon, hB1, wx, hC1, ho1]
      exact next o (Least.skip (.inr ⟨o, rfl, ho, hl2, hl3⟩) fun _ => ⟨o, rfl, hC⟩) _ (by omega)
   ·have hB1 : ¬ (D.cel i x).num.sign < 0 := by have := sign_lt (q := D.cel i x); simpa [hB] using this
    simp [hB1, wx]
    exact next out (hl.skip fun h => absurd h.2 hB) _ (by omega)
def leaveI (L : Blk) (D : Lin.Tab) (j : Nat) (H : List (Nat × Ent)) (Z : List Nat) (n0 : Nat) : Nat → List PV → St → Prop := fun w vs st => ∃ (x k : Nat) (out : Int), vs = [.int .i64 (x : Int), .ptr L.t 0 0, .int .i64 out, .int .i64 (D.m : Int), slv L.b D.m, .int .i64 (j : Int)] ∧ x + w = D.m ∧
 Least (fun l => D.n ≤ D.bas l ∧ 0 < D.cel l j) D.bas x out ∧ n0 ≤ k ∧ st = ⟨k, H, Z⟩
theorem leaving_own {S : Specs} (hS1 : Go.Pi.look S 30 = some rsignR) (L : Blk) (D : Lin.Tab) (j n0 : Nat) (H : List (Nat × Ent)) (Z : List Nat) (hj : j < D.n) (hm : D.m < 1000) (hn : D.n < 1000) (hD : TabAt L H D) :
  CallW prog (specEnv prog G S) G A1 91 [.ptr L.t 0 0, .int .i64 j] ⟨n0, H, Z⟩ (readQ H Z n0 fun v => ∃ out, v = .int .i64 out ∧ Least (fun l => D.n ≤ D.bas l ∧ 0 < D.cel l j) D.bas D.m out) := by
 have np : 0 < D.n := by omega
 refine callW_of ann91 func91 rfl (by kernel_rfl) ?_
 obtain ⟨vb, vm, vc, vu, tt, tv⟩ := hD.tt
 have sl := (slv_ids L.b D.m).2.2.2
 have w1 : IntKind.i64.wrap (-1) = -1 := rfl
 simp [tt, sl]
 refine loopK_of (leaveI L D j H Z n0) rfl rfl ?step D.m _ _ ?init
 case init => exact ⟨0, _, -1, rfl, by omega, Least.zero, by omega, rfl⟩
 case step =>
 rintro w vs st ⟨x, k, out, rfl, hxw, hl, hk, rfl⟩
 rcases Nat.eq_zero_or_pos w with h0 | h0
 ·obtain rfl : x = D.m := by omega
  simp []
  exact ⟨⟨out, rfl, hl⟩, _, by omega, rfl⟩
 ·have mp : 0 < D.m := by omega
  have hx : x < D.m := by omega
  have hxx : (x : Int) < D.m := by omega
  have wx : IntKind.i64.wrap ((x : Int) + 1) = ((x + 1 : Nat) : Int) := w_i64 (by omega)
  obtain ⟨eso, f3, f4⟩ := hD.bb mp
  have o1 := f4.at_ x hx
  obtain ⟨esg, g1, g2, g3⟩ := hD.gg mp
  have g4 : esg[x]? = some (.own (L.r x) 0 D.n) := g3 x hx
  obtain ⟨esi, r1, r2⟩ := hD.rr x hx
  obtain ⟨b2, m2, cc2, u2, d2, l1, l2, l3, l4⟩ := r2.get hj
  obtain ⟨x1, x2, x3, x4, x5⟩ := l3.cell
  obtain ⟨y1, y2, y3, y4, y5⟩ := l4.cell
  have so : slv L.b D.m = .own L.b 0 D.m := slv_pos mp
  have sg' : slv L.g D.m = .own L.g 0 D.m := slv_pos mp
  rw [so]
  have next : ∀ out' : Int, Least (fun l => D.n ≤ D.bas l ∧ 0 < D.cel l j) D.bas (x + 1) out' → ∀ k', n0 ≤ k' → ∃ m', m' < w ∧ leaveI L D j H Z n0 m' [.int .i64 ((x + 1 : Nat) : Int), .ptr L.t 0 0, .int .i64 out', .int .i64 (D.m : Int), slv L.b D.m, .int .i64 (j : Int)] ⟨k', H, Z⟩ := fun out' h k' hk' => ⟨w - 1, by omega, x + 1, k', out', rfl, by omega, h, hk', rfl⟩
  rw [so] at next
  rcases Nat.lt_or_ge (D.bas x) D.n with hA | hA
  ·have hA1 : ¬ (D.n : Int) ≤ (D.bas x : Int) := by omega
   have hA2 : ¬ D.n ≤ D.bas x := by omega
   simp [tt, f3, o1, hx, hxx, wx, hA1]
   exact next out (hl.skip fun h => absurd h.1 hA2) _ (by omega)
  ·have hA1 : (D.n : Int) ≤ (D.bas x : Int) := by omega
   simp [tt, sg', f3, o1, hx, hxx, hj, hA1, g1, g4, r1, l1]
   refine callK_pure hS1 (by simp [PV.pureL, l2.pure]) (rsign_ok _ _ l2) fun r hr => ?_
   simp only [rsignR, ratv_eq l2] at hr
   subst hr
   by_cases hB : 0 < D.cel x j
   ·have hB1 : 0 < (D.cel x j).num.sign := by have := sign_gt (q := D.cel x j); simpa [hB] using this
    rcases hl with ⟨rfl, hl'⟩ | ⟨o, rfl, ho, hl2, hl3⟩
    ·simp [hB1, wx]
     exact next x (Least.take (.inl ⟨rfl, hl'⟩) ⟨hA, hB⟩ (.inl (by omega))) _ (by omega)
    ·have ho1 : ¬ (o : Int) < 0 := by omega
     have hon : o < D.m := by omega
     have o2 := f4.at_ o hon
     rcases Nat.lt_or_ge (D.bas x) (D.bas o) with hC | hC
     ·have hC1 : (D.bas x : Int) < (D.bas o : Int) := by omega
      simp [tt, so, f3, o2, hon, hB1, wx, hC1, ho1]
      exact next x (Least.take (.inr ⟨o, rfl, ho, hl2, hl3⟩) ⟨hA, hB⟩ (.inr ⟨o, rfl, hC⟩)) _ (by omega)
     ·have hC1 : ¬ (D.bas x : Int) < (D.bas o : Int) := by omega
      have hC2 : ¬ D.bas x < D.bas o := by omega
      simp [tt, so, f3, o2, hon, hB1, wx, hC1, ho1]
      exact next o (Least.skip (.inr ⟨o, rfl, ho, hl2, hl3⟩) fun _ => ⟨o, rfl, hC⟩) _ (by omega)
   ·have hB1 : ¬ 0 < (D.cel x j).num.sign := by have := sign_gt (q := D.cel x j); simpa [hB] using this
    simp [hB1, wx]
    exact next out (hl.skip fun h => absurd h.2 hB) _ (by omega)
def wP (D : Lin.Tab) (l : Nat) : Prop := D.n ≤ D.bas l ∧ D.con l < 0
def wQ (D : Lin.Tab) (l : Nat) : Prop := D.n ≤ D.off l ∧ D.top l < 0
def W1 (D : Lin.Tab) (x : Nat) (row least : Int) : Prop := (row = -1 ∧ least = -1 ∧ ∀ l, l < x → ¬ wP D l) ∨ ∃ o : Nat, row = o ∧ least = D.bas o ∧ o < x ∧ wP D o ∧ ∀ l, l < x → wP D l → D.bas o ≤ D.bas l
def W2 (D : Lin.Tab) (x : Nat) (row col least : Int) : Prop := (col = -1 ∧ W1 D D.m row least ∧ ∀ l, l < x → wQ D l → 0 ≤ least ∧ least ≤ D.off l) ∨ (row = -1 ∧ ∃ o : Nat, col = o ∧ least = D.off o ∧ o < x ∧ wQ D o ∧ (∀ l, l < x → wQ D l → D.off o ≤ D.off l) ∧ ∀ l, l < D.m → wP D l → D.off o ≤ D.bas l)
theorem lt_succ_cases {l x : Nat} (h : l < x + 1) : l < x ∨ l = x := by omega
theorem W1.skip {D : Lin.Tab} {x : Nat} {row least : Int} (h : W1 D x row least) (hx : wP D x → 0 ≤ least ∧ least ≤ D.bas x) : W1 D (x + 1) row least := by
 rcases h with ⟨rfl, rfl, h⟩ | ⟨o, rfl, rfl, h1, h2, h3⟩
 ·refine .inl ⟨rfl, rfl, fun l hl hp => ?_⟩
  rcases lt_succ_cases hl with h4 | rfl
  ·exact h l h4 hp
  ·have := hx hp; omega
 ·refine .inr ⟨o, rfl, rfl, by omega, h2, fun l hl hp => ?_⟩
  rcases lt_succ_cases hl with h4 | rfl
  ·exact h3 l h4 hp
  ·have := hx hp; omega
theorem W1.take {D : Lin.Tab} {x : Nat} {row least : Int} (h : W1 D x row least) (hx : wP D x) (hk : least < 0 ∨ (D.bas x : Int) < least) : W1 D (x + 1) x (D.bas x) := by
 refine .inr ⟨x, rfl, rfl, by omega, hx, fun l hl hp => ?_⟩
 rcases lt_succ_cases hl with h4 | rfl
 ·rcases h with ⟨rfl, rfl, h⟩ | ⟨o, rfl, rfl, h1, h2, h3⟩
  ·exact absurd hp (h l h4)
  ·have := h3 l h4 hp; omega
 ·exact Nat.le_refl _
theorem W2.skip {D : Lin.Tab} {x : Nat} {row col least : Int} (h : W2 D x row col least) (hx : wQ D x → 0 ≤ least ∧ least ≤ D.off x) : W2 D (x + 1) row col least := by
 rcases h with ⟨rfl, h, h'⟩ | ⟨rfl, o, rfl, rfl, h1, h2, h3, h5⟩
 ·refine .inl ⟨rfl, h, fun l hl hp => ?_⟩
  rcases lt_succ_cases hl with h4 | rfl
  ·exact h' l h4 hp
  ·exact hx hp
 ·refine .inr ⟨rfl, o, rfl, rfl, by omega, h2, fun l hl hp => ?_, h5⟩
  rcases lt_succ_cases hl with h4 | rfl
  ·exact h3 l h4 hp
  ·have := hx hp; omega
theorem W2.take {D : Lin.Tab} {x : Nat} {row col least : Int} (h : W2 D x row col least) (hx : wQ D x) (hk : least < 0 ∨ (D.off x : Int) < least) : W2 D (x + 1) (-1) x (D.off x) := by
 refine .inr ⟨rfl, x, rfl, rfl, by omega, hx, fun l hl hp => ?_, fun l hl hp => ?_⟩
 ·rcases lt_succ_cases hl with h4 | rfl
  ·rcases h with ⟨rfl, h, h'⟩ | ⟨rfl, o, rfl, rfl, h1, h2, h3, h5⟩
   ·have := h' l h4 hp; omega
   ·have := h3 l h4 hp; omega
  ·exact Nat.le_refl _
 ·rcases h with ⟨rfl, h, h'⟩ | ⟨rfl, o, rfl, rfl, h1, h2, h3, h5⟩
  ·rcases h with ⟨rfl, rfl, h⟩ | ⟨o, rfl, rfl, h1, h2, h3⟩
   ·exact absurd hp (h l hl)
   ·have := h3 l hl hp; omega
  ·have := h5 l hl hp; omega
def WrongR (D : Lin.Tab) (row col : Int) : Prop := (row = -1 ∧ col = -1 ∧ ∀ v, ¬ D.Wrong v) ∨ (∃ r : Nat, r < D.m ∧ row = r ∧ col = -1 ∧ D.n ≤ D.bas r ∧ D.con r < 0 ∧ ∀ v, v < D.bas r → ¬ D.Wrong v) ∨ (∃ c : Nat, c < D.n ∧ row = -1 ∧ col = c ∧ D.n ≤ D.off c ∧ D.top c < 0 ∧ ∀ v, v < D.off c → ¬ D.Wrong v)
theorem W2.done {D : Lin.Tab} {row col least : Int} (h : W2 D D.n row col least) : WrongR D row col := by
 rcases h with ⟨rfl, h, h'⟩ | ⟨rfl, o, rfl, rfl, h1, h2, h3, h5⟩
 ·rcases h with ⟨rfl, rfl, h⟩ | ⟨o, rfl, rfl, h1, h2, h3⟩
  ·refine .inl ⟨rfl, rfl, fun v hv => ?_⟩
   obtain ⟨hn, ⟨i, hi, rfl, hc⟩ | ⟨j, hj, rfl, hc⟩⟩ := hv
   ·exact h i hi ⟨hn, hc⟩
   ·have := h' j hj ⟨hn, hc⟩; omega
  ·refine .inr (.inl ⟨o, h1, rfl, rfl, h2.1, h2.2, fun v hv hw => ?_⟩)
   obtain ⟨hn, ⟨i, hi, rfl, hc⟩ | ⟨j, hj, rfl, hc⟩⟩ := hw
   ·have := h3 i hi ⟨hn, hc⟩; omega
   ·have := h' j hj ⟨hn, hc⟩; omega
 ·refine .inr (.inr ⟨o, h1, rfl, rfl, h2.1, h2.2, fun v hv hw => ?_⟩)
  obtain ⟨hn, ⟨i, hi, rfl, hc⟩ | ⟨j, hj, rfl, hc⟩⟩ := hw
  ·have := h5 i hi ⟨hn, hc⟩; omega
  ·have := h3 j hj ⟨hn, hc⟩; omega
def wI1 (L : Blk) (D : Lin.Tab) (H : List (Nat × Ent)) (Z : List Nat) (n0 : Nat) : Nat → List PV → St → Prop := fun w vs st => ∃ (x k : Nat) (row least : Int), vs = [.int .i64 (x : Int), .ptr L.t 0 0, .int .i64 least, .int .i64 (D.m : Int), slv L.b D.m, .int .i64 row, .int .i64 (-1)] ∧ x + w = D.m ∧ W1 D x row least ∧ n0 ≤ k ∧ st = ⟨k, H, Z⟩
def wI2 (L : Blk) (D : Lin.Tab) (H : List (Nat × Ent)) (Z : List Nat) (n0 : Nat) : Nat → List PV → St → Prop := fun w vs st => ∃ (x k : Nat) (row col least : Int), vs = [.int .i64 (x : Int), .ptr L.t 0 0, .int .i64 least, .int .i64 (D.n : Int), slv L.o D.n, .int .i64 row, .int .i64 col] ∧ x + w = D.n ∧ W2 D x row col least ∧ n0 ≤ k ∧ st = ⟨k, H, Z⟩
theorem wrong_own {S : Specs} (hS1 : Go.Pi.look S 30 = some rsignR) (L : Blk) (D : Lin.Tab) (n0 : Nat) (H : List (Nat × Ent)) (Z : List Nat) (hm : D.m < 1000) (hn : D.n < 1000) (hD : TabAt L H D) :
  CallW prog (specEnv prog G S) G A1 88 [.ptr L.t 0 0] ⟨n0, H, Z⟩ (readQ H Z n0 fun v => ∃ row col, v = .tuple [.int .i64 row, .int .i64 col] ∧ WrongR D row col) := by
 refine callW_of ann88 func88 rfl (by kernel_rfl) ?_
 obtain ⟨vb, vm, vc, vu, tt, tv⟩ := hD.tt
 have sl := (slv_ids L.b D.m).2.2.2
 have sl2 := (slv_ids L.o D.n).2.2.2
 simp [tt, sl]
 refine loopK_of (wI1 L D H Z n0) rfl rfl ?step1 D.m _ _ ?init1
 case init1 => exact ⟨0, _, -1, -1, rfl, by omega, .inl ⟨rfl, rfl, fun l h => absurd h (Nat.not_lt_zero l)⟩, by omega, rfl⟩
 case step1 =>
 rintro w vs st ⟨x, k, row, least, rfl, hxw, hl, hk, rfl⟩
 rcases Nat.eq_zero_or_pos w with h0 | h0
 ·obtain rfl : x = D.m := by omega
  simp [tt, sl2]
  refine loopK_of (wI2 L D H Z n0) rfl rfl ?step2 D.n _ _ ?init2
  case init2 => exact ⟨0, _, row, -1, least, rfl, by omega, .inl ⟨rfl, hl, fun l h => absurd h (Nat.not_lt_zero l)⟩, by omega, rfl⟩
  case step2 =>
  clear hl hxw
  rintro w vs st ⟨x, k, row, col, least, rfl, hxw, hl, hk, rfl⟩
  rcases Nat.eq_zero_or_pos w with h0 | h0
  ·obtain rfl : x = D.n := by omega
   simp []
   exact ⟨⟨row, col, rfl, hl.done⟩, _, by omega, rfl⟩
  ·have hx : x < D.n := by omega
   have np : 0 < D.n := by omega
   have hxx : (x : Int) < D.n := by omega
   have wx : IntKind.i64.wrap ((x : Int) + 1) = ((x + 1 : Nat) : Int) := w_i64 (by omega)
   obtain ⟨eso, f3, f4⟩ := hD.oo np
   have o1 := f4.at_ x hx
   obtain ⟨esi, r1, r2⟩ := hD.pp np
   obtain ⟨b2, m2, cc2, u2, d2, l1, l2, l3, l4⟩ := r2.get hx
   obtain ⟨x1, x2, x3, x4, x5⟩ := l3.cell
   obtain ⟨y1, y2, y3, y4, y5⟩ := l4.cell
   have so : slv L.o D.n = .own L.o 0 D.n := slv_pos np
   have sg' : slv L.p D.n = .own L.p 0 D.n := slv_pos np
   rw [so]
   have next : ∀ row' col' least' : Int, W2 D (x + 1) row' col' least' → ∀ k', n0 ≤ k' → ∃ m', m' < w ∧ wI2 L D H Z n0 m' [.int .i64 ((x + 1 : Nat) : Int), .ptr L.t 0 0, .int .i64 least', .int .i64 (D.n : Int), slv L.o D.n, .int .i64 row', .int .i64 col'] ⟨k', H, Z⟩ := fun row' col' least' h k' hk' => ⟨w - 1, by omega, x + 1, k', row', col', least', rfl, by omega, h, hk', rfl⟩
   rw [so] at next
   rcases Nat.lt_or_ge (D.off x) D.n with hA | hA
   ·have hA1 : ¬ (D.n : Int) ≤ (D.off x : Int) := by omega
    have hA2 : ¬ D.n ≤ D.off x := by omega
    simp [tt, f3, o1, hx, hxx, wx, hA1]
    exact next row col least (hl.skip fun h => absurd h.1 hA2) _ (by omega)
   ·have hA1 : (D.n : Int) ≤ (D.off x : Int) := by omega
    simp [tt, sg', f3, o1, hx, hxx, hA1, r1, l1]
    refine callK_pure hS1 (by simp [PV.pureL, l2.pure]) (rsign_ok _ _ l2) fun r hr => ?_
    simp only [rsignR, ratv_eq l2] at hr
    subst hr
    by_cases hB : D.top x < 0
    ·have hB1 : (D.top x).num.sign < 0 := by have := sign_lt (q := D.top x); simpa [hB] using this
     rcases Int.lt_or_le least 0 with hC | hC
     ·simp [hB1, wx, hC]
      exact next (-1) x (D.off x) (hl.take ⟨hA, hB⟩ (.inl hC)) _ (by omega)
     ·have hC1 : ¬ least < 0 := by omega
      rcases Int.lt_or_le (D.off x : Int) least with hE | hE
      ·simp [hB1, wx, hC1, hE]
       exact next (-1) x (D.off x) (hl.take ⟨hA, hB⟩ (.inr hE)) _ (by omega)
      ·have hE1 : ¬ (D.off x : Int) < least := by omega
       simp [hB1, wx, hC1, hE1]
       exact next row col least (hl.skip fun _ => ⟨hC, hE⟩) _ (by omega)
    ·have hB1 : ¬ (D.top x).num.sign < 0 := by have := sign_lt (q := D.top x); simpa [hB] using this
     simp [hB1, wx]
     exact next row col least (hl.skip fun h => absurd h.2 hB) _ (by omega)
 ·have hx : x < D.m := by omega
  have mp : 0 < D.m := by omega
  have hxx : (x : Int) < D.m := by omega
  have wx : IntKind.i64.wrap ((x : Int) + 1) = ((x + 1 : Nat) : Int) := w_i64 (by omega)
  obtain ⟨eso, f3, f4⟩ := hD.bb mp
  have o1 := f4.at_ x hx
  obtain ⟨esi, r1, r2⟩ := hD.cc mp
  obtain ⟨b2, m2, cc2, u2, d2, l1, l2, l3, l4⟩ := r2.get hx
  obtain ⟨x1, x2, x3, x4, x5⟩ := l3.cell
  obtain ⟨y1, y2, y3, y4, y5⟩ := l4.cell
  have so : slv L.b D.m = .own L.b 0 D.m := slv_pos mp
  have sg' : slv L.c D.m = .own L.c 0 D.m := slv_pos mp
  rw [so]
  have next : ∀ row' least' : Int, W1 D (x + 1) row' least' → ∀ k', n0 ≤ k' → ∃ m', m' < w ∧ wI1 L D H Z n0 m' [.int .i64 ((x + 1 : Nat) : Int), .ptr L.t 0 0, .int .i64 least', .int .i64 (D.m : Int), slv L.b D.m, .int .i64 row', .int .i64 (-1)] ⟨k', H, Z⟩ := fun row' least' h k' hk' => ⟨w - 1, by omega, x + 1, k', row', least', rfl, by omega, h, hk', rfl⟩
  rw [so] at next
  rcases Nat.lt_or_ge (D.bas x) D.n with hA | hA
  ·have hA1 : ¬ (D.n : Int) ≤ (D.bas x : Int) := by omega
   have hA2 : ¬ D.n ≤ D.bas x := by omega
   simp [tt, f3, o1, hx, hxx, wx, hA1]
   exact next row least (hl.skip fun h => absurd h.1 hA2) _ (by omega)
  ·have hA1 : (D.n : Int) ≤ (D.bas x : Int) := by omega
   simp [tt, sg', f3, o1, hx, hxx, hA1, r1, l1]
   refine callK_pure hS1 (by simp [PV.pureL, l2.pure]) (rsign_ok _ _ l2) fun r hr => ?_
   simp only [rsignR, ratv_eq l2] at hr
   subst hr
   by_cases hB : D.con x < 0
   ·have hB1 : (D.con x).num.sign < 0 := by have := sign_lt (q := D.con x); simpa [hB] using this
    rcases Int.lt_or_le least 0 with hC | hC
    ·simp [hB1, wx, hC]
     exact next x (D.bas x) (hl.take ⟨hA, hB⟩ (.inl hC)) _ (by omega)
    ·have hC1 : ¬ least < 0 := by omega
     rcases Int.lt_or_le (D.bas x : Int) least with hE | hE
     ·simp [hB1, wx, hC1, hE]
      exact next x (D.bas x) (hl.take ⟨hA, hB⟩ (.inr hE)) _ (by omega)
     ·have hE1 : ¬ (D.bas x : Int) < least := by omega
      simp [hB1, wx, hC1, hE1]
      exact next row least (hl.skip fun _ => ⟨hC, hE⟩) _ (by omega)
   ·have hB1 : ¬ (D.con x).num.sign < 0 := by have := sign_lt (q := D.con x); simpa [hB] using this
    simp [hB1, wx]
    exact next row least (hl.skip fun h => absurd h.2 hB) _ (by omega)
structure Room (L : Blk) (m n0 : Nat) (Z : List Nat) : Prop where
 apart : L.Apart m
 low : ∀ q, L.In m q → q < n0 ∧ memB Z q = false
 free : ∀ b, n0 ≤ b → memB Z b = false
theorem Room.mono {L : Blk} {m n0 n1 : Nat} {Z : List Nat} (h : Room L m n0 Z) (hn : n0 ≤ n1) : Room L m n1 Z := ⟨h.apart, fun q hq => ⟨by have := (h.low q hq).1; omega, (h.low q hq).2⟩, fun b hb => h.free b (by omega)⟩
structure Of (D0 : Lin.Tab) (Pr : Lin.Tab → Prop) (D : Lin.Tab) : Prop where
 placed : D.Placed
 same : Same D0 D
 pr : Pr D
structure Small (D0 : Lin.Tab) (Pr : Lin.Tab → Prop) : Prop where
 m : D0.m < 1000
 n : D0.n < 1000
 fits : ∀ D, D.Placed → Same D0 D → TFits D 15000
 next : ∀ D i j, i < D.m → j < D.n → D.cel i j ≠ 0 → Pr D → Pr (D.pivot i j)
theorem Of.pivot {D0 D : Lin.Tab} {Pr : Lin.Tab → Prop} (s : Small D0 Pr) (h : Of D0 Pr D) {i j : Nat} (hi : i < D.m) (hj : j < D.n) (hc : D.cel i j ≠ 0) : Of D0 Pr (D.pivot i j) := ⟨h.placed.pivot hi hj, h.same.trans (Same.pivot D hi hj hc), s.next D i j hi hj hc h.pr⟩
def relI1 (L : Blk) (D0 : Lin.Tab) (Pr : Lin.Tab → Prop) (H : List (Nat × Ent)) (Z : List Nat) (n0 : Nat) : Nat → List PV → St → Prop := fun w vs st => ∃ (j k : Nat) (Hk : List (Nat × Ent)) (D : Lin.Tab), vs = [.ptr L.t 0 0, .int .i64 (j : Int), .int .i64 (D0.n : Int)] ∧ j + w = D0.n ∧ Of D0 Pr D ∧ D.Free j ∧ Mid L n0 H D k Hk ∧ st = ⟨k, Hk, Z⟩
def relI2 (L : Blk) (D0 : Lin.Tab) (Pr : Lin.Tab → Prop) (j : Nat) (H : List (Nat × Ent)) (Z : List Nat) (n0 : Nat) : Nat → List PV → St → Prop := fun w vs st => ∃ (i k : Nat) (Hk : List (Nat × Ent)) (D : Lin.Tab), vs = [.ptr L.t 0 0, .int .i64 (i : Int), .int .i64 (j : Int), .int .i64 (D0.m : Int), .int .i64 (j : Int), .int .i64 (D0.n : Int)] ∧ i + w = D0.m ∧ Of D0 Pr D ∧ D.Free j ∧ (∀ l, l < i → D0.n ≤ D.bas l → D.cel l j = 0) ∧ Mid L n0 H D k Hk ∧ st = ⟨k, Hk, Z⟩
def relX (L : Blk) (D0 : Lin.Tab) (Pr : Lin.Tab → Prop) (j : Nat) (H : List (Nat × Ent)) (Z : List Nat) (n0 : Nat) : Tm → St → Prop := fun T st => lookT T 0 = .ptr L.t 0 0 ∧ lookT T 9 = .int .i64 (j : Int) ∧ lookT T 8 = .int .i64 (D0.n : Int) ∧ ∃ (k : Nat) (Hk : List (Nat × Ent)) (D : Lin.Tab), Of D0 Pr D ∧ D.Free (j + 1) ∧ Mid L n0 H D k Hk ∧ st = ⟨k, Hk, Z⟩
def relQ (L : Blk) (D0 : Lin.Tab) (Pr : Lin.Tab → Prop) (H : List (Nat × Ent)) (Z : List Nat) (n0 : Nat) : PV → St → Prop := fun v st => v = .tuple [] ∧ ∃ (k : Nat) (Hk : List (Nat × Ent)) (D : Lin.Tab), Of D0 Pr D ∧ D.Free D0.n ∧ Mid L n0 H D k Hk ∧ st = ⟨k, Hk, Z⟩
theorem Mid.trans {L : Blk} {n0 n1 k : Nat} {H H1 Hk : List (Nat × Ent)} {D D1 : Lin.Tab} (h : Mid L n0 H D n1 H1) (h' : Mid L n1 H1 D1 k Hk) (e : D1.m = D.m) : Mid L n0 H D1 k Hk := by
 have hk := h.keeps
 have hk' := h'.keeps
 rw [e] at hk'
 exact ⟨h'.tab, by rw [e]; exact hk.trans hk' h.le, h'.lt, Nat.le_trans h.le h'.le⟩
theorem Mid.wait {L : Blk} {n0 k k' : Nat} {H Hk : List (Nat × Ent)} {D : Lin.Tab} (h : Mid L n0 H D k Hk) (hk : k ≤ k') : Mid L n0 H D k' Hk := ⟨h.tab, h.keeps, lt_mono h.lt hk, Nat.le_trans h.le hk⟩
theorem release_own {S : Specs} (hS1 : Go.Pi.look S 30 = some rsignR) (hS2 : Go.Pi.look S 59 = some rmulR) (hS3 : Go.Pi.look S 80 = some rsubR) (hS4 : Go.Pi.look S 54 = some rfromR) (hS5 : Go.Pi.look S 120 = some quotientR) (hS6 : Go.Pi.look S 104 = none) (hS7 : Go.Pi.look S 86 = none)
  (L : Blk) (D0 D : Lin.Tab) (Pr : Lin.Tab → Prop) (sm : Small D0 Pr) (n0 : Nat) (H : List (Nat × Ent)) (Z : List Nat) (ro : 0 < D0.m → 0 < D0.n → Room L D0.m n0 Z) (hF : ∀ p ∈ H, p.1 < n0) (hD : TabAt L H D) (ho : Of D0 Pr D) (hf : D.Free 0) :
  CallW prog (specEnv prog G S) G A1 51 [.ptr L.t 0 0] ⟨n0, H, Z⟩ (relQ L D0 Pr H Z n0) := by
 refine callW_of ann51 func51 rfl (by kernel_rfl) ?_
 have em0 := ho.same.m
 have en0 := ho.same.n
 have s1 := sm.m
 have s2 := sm.n
 obtain ⟨vb, vm, vc, vu, tt, tv⟩ := hD.tt
 have sl := (slv_ids L.o D.n).2.2.2
 rw [en0] at sl
 rw [en0, em0] at tt
 simp [tt, sl]
 refine loopK_of (relI1 L D0 Pr H Z n0) rfl rfl ?step1 D0.n _ _ ?init1
 case init1 => exact ⟨0, _, H, D, rfl, by omega, ho, hf, ⟨hD, Keeps.rfl', lt_mono hF (by omega), by omega⟩, rfl⟩
 case step1 =>
 clear tt tv sl em0 en0 hD ho hf hF
 rintro w vs st ⟨j, k, Hk, D, rfl, hjw, ho, hf, mid, rfl⟩
 rcases Nat.eq_zero_or_pos w with h0 | h0
 ·obtain rfl : j = D0.n := by omega
  simp []
  exact ⟨rfl, _, Hk, D, ho, hf, mid.wait (by omega), rfl⟩
 ·have hj : j < D0.n := by omega
  have hjj : (j : Int) < D0.n := by omega
  have wj : IntKind.i64.wrap ((j : Int) + 1) = ((j + 1 : Nat) : Int) := w_i64 (by omega)
  have em0 := ho.same.m
  have en0 := ho.same.n
  obtain ⟨vb, vm, vc, vu, tt, tv⟩ := mid.tab.tt
  have sl := (slv_ids L.b D.m).2.2.2
  rw [em0] at sl
  rw [en0, em0] at tt
  simp [tt, sl, hjj]
  refine loopK_exit (relI2 L D0 Pr j H Z n0) 2 (relX L D0 Pr j H Z n0) rfl rfl ?step2 ?cont D0.m _ _ ?init2
  case init2 => exact ⟨0, _, Hk, D, rfl, by omega, ho, hf, fun l h => absurd h (Nat.not_lt_zero l), mid.wait (by omega), rfl⟩
  case cont =>
   rintro T st ⟨t0, t9, t8, k, Hk, D, ho, hf, mid, rfl⟩
   simp [t0, t9, t8, wj]
   exact ⟨w - 1, by omega, j + 1, _, Hk, D, rfl, by omega, ho, hf, mid.wait (by omega), rfl⟩
  case step2 =>
  clear tt tv sl em0 en0 mid ho hf
  rintro w vs st ⟨i, k, Hk, D, rfl, hiw, ho, hf, hz, mid, rfl⟩
  have em0 := ho.same.m
  have en0 := ho.same.n
  rcases Nat.eq_zero_or_pos w with h0 | h0
  ·obtain rfl : i = D0.m := by omega
   simp []
   refine ⟨rfl, rfl, rfl, _, Hk, D, ho, hf.skip fun l hl hb => hz l (by omega) (by omega), mid.wait (by omega), rfl⟩
  ·have hi : i < D0.m := by omega
   have hii : (i : Int) < D0.m := by omega
   have mp : 0 < D0.m := by omega
   have np : 0 < D0.n := by omega
   have wi : IntKind.i64.wrap ((i : Int) + 1) = ((i + 1 : Nat) : Int) := w_i64 (by omega)
   obtain ⟨vb, vm, vc, vu, tt, tv⟩ := mid.tab.tt
   rw [en0, em0] at tt
   have sb : slv L.b D0.m = .own L.b 0 D0.m := slv_pos mp
   have sg' : slv L.g D0.m = .own L.g 0 D0.m := slv_pos mp
   obtain ⟨esb, f1, f2⟩ := mid.tab.bb (by omega)
   have b1 := f2.at_ i (by omega)
   obtain ⟨esg, g1, g2, g3⟩ := mid.tab.gg (by omega)
   have g4 := g3 i (by omega)
   rw [en0] at g4
   obtain ⟨esi, r1, r2⟩ := mid.tab.rr i (by omega)
   obtain ⟨b2, m2, cc2, u2, d2, l1, l2, l3, l4⟩ := r2.get (show j < D.n by omega)
   obtain ⟨x1, x2, x3, x4, x5⟩ := l3.cell
   obtain ⟨y1, y2, y3, y4, y5⟩ := l4.cell
   have again : (D0.n ≤ D.bas i → D.cel i j = 0) → ∀ k', k ≤ k' → ∃ m', m' < w ∧ relI2 L D0 Pr j H Z n0 m' [.ptr L.t 0 0, .int .i64 ((i + 1 : Nat) : Int), .int .i64 (j : Int), .int .i64 (D0.m : Int), .int .i64 (j : Int), .int .i64 (D0.n : Int)] ⟨k', Hk, Z⟩ := fun h k' hk' => ⟨w - 1, by omega, i + 1, k', Hk, D, rfl, by omega, ho, hf, fun l hl hb => by
    rcases lt_succ_cases hl with h4 | rfl
    ·exact hz l h4 hb
    ·exact h hb, mid.wait hk', rfl⟩
   rcases Nat.lt_or_ge (D.bas i) D0.n with hA | hA
   ·have hA1 : ¬ (D0.n : Int) ≤ (D.bas i : Int) := by omega
    have hA2 : ¬ D0.n ≤ D.bas i := by omega
    simp [run_draw, tt, sb, f1, b1, hi, hii, wi, hA1]
    exact ⟨logOk_free (by simp only [List.map_cons, List.map_nil, tri, List.isEmpty_nil, List.isEmpty_cons]; decide +kernel), again (fun h => absurd h hA2) _ (by omega)⟩
   ·have hA1 : (D0.n : Int) ≤ (D.bas i : Int) := by omega
    simp [run_draw, tt, sb, sg', f1, b1, hi, hii, hj, hA1, g1, g4, r1, l1]
    refine dcallK_pure hS1 (by simp [PV.pureL, l2.pure]) (rsign_ok _ _ l2) fun r hr => ?_
    simp only [rsignR, ratv_eq l2] at hr
    subst hr
    by_cases hf0 : D.cel i j = 0
    ·have hs : ((D.cel i j).num.sign != 0) = false := by rw [num_sign_ne]; simp [hf0]
     simp [hs, wi, x2, y2]
     exact ⟨logOk_free (by simp only [List.map_cons, List.map_nil, tri, List.isEmpty_nil, List.isEmpty_cons]; decide +kernel), again (fun _ => hf0) _ (by omega)⟩
    ·have hs : ((D.cel i j).num.sign != 0) = true := by rw [num_sign_ne]; simp [hf0]
     simp [hs, x2, y2]
     refine ⟨logOk_free (by simp only [List.map_cons, List.map_nil, tri, List.isEmpty_nil, List.isEmpty_cons]; decide +kernel), ?_⟩
     have rm := (ro mp np).mono mid.le
     have kn := mid.le
     have op := ho.pivot sm (i := i) (j := j) (by omega) (by omega) hf0
     refine callK_run (by simp only [specEnv, hS7]; rfl) ((pivot_own hS1 hS2 hS3 hS4 hS5 hS6 L D i j _ Hk Z (by omega) (by omega) (by omega) (by omega) (by rw [em0]; exact rm.apart) (fun q hq => by rw [em0] at hq; have := rm.low q hq; exact ⟨by omega, this.2⟩) (fun b hb => rm.free b (by omega)) (lt_mono mid.lt (by omega)) mid.tab hf0 (sm.fits D ho.placed ho.same) (sm.fits _ op.placed op.same)).mono fun v st h => ?_)
     obtain ⟨rfl, k2, H2, mid2, rfl⟩ := h
     simp []
     exact ⟨rfl, rfl, rfl, _, H2, _, op, hf.pivot (by omega) (by omega) (by omega), ((mid.wait (by omega)).trans mid2 rfl).wait (by omega), rfl⟩
end Go.Proofs.Tryz
namespace Go.Pi
section
variable [Hole] {P : Program} {env : Env} {G : Nat → Option PV} {A : FuncId → Option Ann} {cx : Cx}
theorem dcallK_run {f : FuncId} {args ws : List PV} {fr : List Nat} {ops rest : List Oper} {j : Nat} {T : Tm} {dst : Option Tmp} {s : St} {rd : List Nat} {l : List Lg} {m : List Nat} {k : Kont} {Q : PV → Prop} (he : env f = none) (hr : reifyL s.hp args = some (ws, fr)) (hok : fr.all (fun r => Nat.blt r s.next) = true)
  (hc : CallW P env G A f ws ⟨0, [], []⟩ fun v s2 => ∃ r fl, reify s2.hp v = some (r, fl) ∧ Q r)
  (h : ∀ r, Q r → drawK P env G A cx (j + 1) (putT T dst r) (s.apply { val := r, fr := fr }) ({ ix := j, rd := rd ++ fr, wr := [] } :: l) m ops rest k) : dcallK P env G A cx f args j T s dst rd l m ops rest k := by
 obtain ⟨n, v, s2, h1, r, fl, h2, h3⟩ := hc
 refine ⟨n, { val := r, fr := fr }, ?_, ?_, h r h3⟩
 ·simp only [envCall, he]
  unfold apartCall
  rw [hr]
  simp only [h1, h2]
 ·simp only [okOut, hok, Bool.and_self, Option.isNone_none, Bool.true_or]
mutual
theorem reifyW_pure {hp : Nat → Option Ent} {sub : PV → Option (PV × List Nat)} : ∀ v : PV, v.pureB = true → reifyW hp sub v = some (v, [])
 | .own .., h => by simp [PV.pureB] at h
 | .ptr .., h => by simp [PV.pureB] at h
 | .agg cs, h => by
  simp only [PV.pureB] at h
  simp only [reifyW, reifyWL_pure cs h]
 | .tuple cs, h => by
  simp only [PV.pureB] at h
  simp only [reifyW, reifyWL_pure cs h]
 | .func f cs, h => by
  simp only [PV.pureB] at h
  simp only [reifyW, reifyWL_pure cs h]
 | .iface t v, h => by
  simp only [PV.pureB] at h
  simp only [reifyW, reifyW_pure v h]
 | .top, h => by simp [reifyW, h]
 | .int .., h => by simp [reifyW, h]
 | .bool _, h => by simp [reifyW, h]
 | .str _, h => by simp [reifyW, h]
 | .nil, h => by simp [reifyW, h]
 | .slice _, h => by simp [reifyW, h]
 | .eptr .., h => by simp [reifyW, h]
 | .nilPtr, h => by simp [reifyW, h]
 | .nilFunc, h => by simp [reifyW, h]
 | .nilIface, h => by simp [reifyW, h]
 | .hole _, h => by simp [reifyW, h]
 | .any, h => by simp [reifyW, h]
theorem reifyWL_pure {hp : Nat → Option Ent} {sub : PV → Option (PV × List Nat)} : ∀ vs : List PV, PV.pureL vs = true → reifyWL hp sub vs = some (vs, [])
 | [], _ => rfl
 | v :: vs, h => by
  simp only [PV.pureL, Bool.and_eq_true] at h
  simp only [reifyWL, reifyW_pure v h.1, reifyWL_pure vs h.2, List.append_nil]
end
theorem mapR_pure {hp : Nat → Option Ent} {d : Nat} : ∀ {es : List PV}, (∀ v ∈ es, v.pureB = true) → mapR (reifyN hp (d + 1)) es = some (es, [])
 | [], _ => rfl
 | v :: vs, h => by
  have h1 : reifyN hp (d + 1) v = some (v, []) := reifyW_pure v (h v (by simp))
  have h2 : mapR (reifyN hp (d + 1)) vs = some (vs, []) := mapR_pure fun w hw => h w (List.mem_cons_of_mem _ hw)
  simp only [mapR, h1, h2, List.append_nil]
theorem reifyW_own {hp : Nat → Option Ent} {d r n sz : Nat} {es : List PV} (hp' : hp r = some ⟨sz, es⟩) (hn : es.length = n) (hs : 0 < sz) (h : ∀ v ∈ es, v.pureB = true) : reifyW hp (reifyN hp (d + 1)) (.own r 0 n) = some (.slice es, [r]) := by
 simp only [reifyW, hp', List.drop_zero]
 rw [List.take_of_length_le (by omega), mapR_pure h]
 have h1 : Nat.ble (0 + n) es.length = true := by rw [ble_iff]; omega
 have h2 : Nat.blt 0 sz = true := by rw [blt_iff]; exact hs
 simp only [h1, h2, Bool.and_self, cond_true]
end
end Go.Pi
namespace Go.Proofs.Tryz
open Go Go.Pi Go.Num Go.Lin
variable [Hole] {G : Nat → Option PV}
theorem NV.pure {es : List PV} {n : Nat} {f : Nat → Nat} (h : NV es n f) : ∀ v ∈ es, v.pureB = true := fun v hv => by
 obtain ⟨k, hk, e⟩ := List.getElem_of_mem hv
 have := h.at_ k (by rw [← h.len]; exact hk)
 rw [List.getElem?_eq_getElem hk, e] at this
 cases this; rfl
theorem RV.pure {es : List PV} {n : Nat} {f : Nat → Rat} (h : RV es n f) : ∀ v ∈ es, v.pureB = true := fun v hv => by
 obtain ⟨k, hk, e⟩ := List.getElem_of_mem hv
 obtain ⟨w, h1, h2⟩ := h.at_ k (by rw [← h.len]; exact hk)
 rw [List.getElem?_eq_getElem hk, e] at h1
 cases h1; exact h2.pure
def sv (n : Nat) (es : List PV) : PV := if n = 0 then .nil else .slice es
theorem sv_pos {n : Nat} {es : List PV} (h : 0 < n) : sv n es = .slice es := if_neg (by omega)
theorem sv_len {n : Nat} {es : List PV} (h : 0 < n → es.length = n) : lenPV (sv n es) = some n := by
 unfold sv
 split
 ·rename_i h0; subst h0; rfl
 ·simp only [lenPV]; rw [h (by omega)]
structure TabV (ib io ic ig ip : List PV) (b c : Bool) (m u : PV) (D : Lin.Tab) : Prop where
 val : IsRat (.agg [.bool b, m, .bool c, u]) D.val
 bb : 0 < D.m → NV ib D.m D.bas
 oo : 0 < D.n → NV io D.n D.off
 cc : 0 < D.m → RV ic D.m D.con
 gl : 0 < D.m → ig.length = D.m
 gg : ∀ i, i < D.m → 0 < D.n → ∃ es, ig[i]? = some (.slice es) ∧ RV es D.n (D.cel i)
 pp : 0 < D.n → RV ip D.n D.top
def tabV (ib io ic ig ip : List PV) (b c : Bool) (m u : PV) (D : Lin.Tab) : PV := .eptr (.agg [.int .i64 D.n, sv D.m ib, sv D.n io, sv D.m ic, sv D.m ig, sv D.n ip, .bool b, m, .bool c, u]) 0
theorem reify_slv {hp : Nat → Option Ent} {d r n sz : Nat} {es : List PV} (h : 0 < n → hp r = some ⟨sz, es⟩ ∧ es.length = n ∧ 0 < sz ∧ ∀ v ∈ es, v.pureB = true) : ∃ fr, reifyW hp (reifyN hp (d + 1)) (slv r n) = some (sv n es, fr) ∧ ∀ q ∈ fr, q = r := by
 rcases Nat.eq_zero_or_pos n with h0 | h0
 ·subst h0
  exact ⟨[], by simp [slv, sv, reifyW, PV.pureB], fun q hq => by cases hq⟩
 ·obtain ⟨h1, h2, h3, h4⟩ := h h0
  exact ⟨[r], by rw [slv_pos h0, sv_pos h0]; exact reifyW_own h1 h2 h3 h4, fun q hq => by simpa using hq⟩
theorem mapR_rows {hp : Nat → Option Ent} {L : Blk} {d n : Nat} {cel : Nat → Nat → Rat} : ∀ (es : List PV) (i0 : Nat), (∀ i, i < es.length → es[i]? = some (.own (L.r (i0 + i)) 0 n) ∧ ∃ rs, hp (L.r (i0 + i)) = some ⟨4, rs⟩ ∧ RV rs n (cel (i0 + i))) →
  ∃ rs fr, mapR (reifyN hp (d + 1 + 1)) es = some (rs, fr) ∧ rs.length = es.length ∧ (∀ i, i < es.length → ∃ r, rs[i]? = some (.slice r) ∧ RV r n (cel (i0 + i))) ∧ ∀ q ∈ fr, ∃ i, i < es.length ∧ q = L.r (i0 + i)
 | [], _, _ => ⟨[], [], rfl, rfl, fun i hi => absurd hi (Nat.not_lt_zero i), fun q hq => by cases hq⟩
 | e :: es, i0, h => by
  obtain ⟨h1, r, h2, h3⟩ := h 0 (by simp)
  simp only [List.getElem?_cons_zero, Option.some.injEq, Nat.add_zero] at h1 h2 h3
  subst h1
  obtain ⟨rs, fr, k1, k2, k3, k4⟩ := mapR_rows (L := L) (d := d) (n := n) (cel := cel) (hp := hp) es (i0 + 1) fun i hi => by
   have := h (i + 1) (by simpa using hi)
   simpa [Nat.add_assoc, Nat.add_comm 1 i] using this
  have h4 : reifyN hp (d + 1 + 1) (.own (L.r i0) 0 n) = some (.slice r, [L.r i0]) := reifyW_own h2 h3.len (by omega) h3.pure
  refine ⟨.slice r :: rs, L.r i0 :: fr, by simp only [mapR, h4, k1, List.cons_append, List.nil_append], by simp [k2], fun i hi => ?_, fun q hq => ?_⟩
  ·rcases i with _ | i
   ·exact ⟨r, rfl, h3⟩
   ·obtain ⟨x, h5, h6⟩ := k3 i (by simpa using hi)
    exact ⟨x, by simpa using h5, by rw [show i0 + (i + 1) = i0 + 1 + i by omega]; exact h6⟩
  ·rcases List.mem_cons.1 hq with rfl | hq
   ·exact ⟨0, by simp, rfl⟩
   ·obtain ⟨i, h5, h6⟩ := k4 q hq
    exact ⟨i + 1, by simpa using h5, by rw [show i0 + (i + 1) = i0 + 1 + i by omega]; exact h6⟩
theorem TabAt.reify {L : Blk} {H : List (Nat × Ent)} {D : Lin.Tab} {n Z} (h : TabAt L H D) : ∃ ib io ic ig ip b c m u fr, Pi.reify (St.hp ⟨n, H, Z⟩) (.ptr L.t 0 0) = some (tabV ib io ic ig ip b c m u D, L.t :: fr) ∧ TabV ib io ic ig ip b c m u D ∧ ∀ q ∈ fr, L.In D.m q := by
 obtain ⟨b, m, c, u, tt, tv⟩ := h.tt
 have hpe : (St.hp ⟨n, H, Z⟩) = Go.Pi.look H := rfl
 rw [hpe]
 obtain ⟨ib, hb⟩ : ∃ es, 0 < D.m → Go.Pi.look H L.b = some ⟨1, es⟩ ∧ NV es D.m D.bas := by
  rcases Nat.eq_zero_or_pos D.m with h0 | h0
  ·exact ⟨[], fun k => by omega⟩
  ·obtain ⟨es, k⟩ := h.bb h0; exact ⟨es, fun _ => k⟩
 obtain ⟨io, ho⟩ : ∃ es, 0 < D.n → Go.Pi.look H L.o = some ⟨1, es⟩ ∧ NV es D.n D.off := by
  rcases Nat.eq_zero_or_pos D.n with h0 | h0
  ·exact ⟨[], fun k => by omega⟩
  ·obtain ⟨es, k⟩ := h.oo h0; exact ⟨es, fun _ => k⟩
 obtain ⟨ic, hc⟩ : ∃ es, 0 < D.m → Go.Pi.look H L.c = some ⟨4, es⟩ ∧ RV es D.m D.con := by
  rcases Nat.eq_zero_or_pos D.m with h0 | h0
  ·exact ⟨[], fun k => by omega⟩
  ·obtain ⟨es, k⟩ := h.cc h0; exact ⟨es, fun _ => k⟩
 obtain ⟨ip, hp⟩ : ∃ es, 0 < D.n → Go.Pi.look H L.p = some ⟨4, es⟩ ∧ RV es D.n D.top := by
  rcases Nat.eq_zero_or_pos D.n with h0 | h0
  ·exact ⟨[], fun k => by omega⟩
  ·obtain ⟨es, k⟩ := h.pp h0; exact ⟨es, fun _ => k⟩
 obtain ⟨fb, kb, qb⟩ := reify_slv (hp := Go.Pi.look H) (d := 3) (r := L.b) (n := D.m) (sz := 1) (es := ib) fun k => ⟨(hb k).1, (hb k).2.len, by omega, (hb k).2.pure⟩
 obtain ⟨fo, ko, qo⟩ := reify_slv (hp := Go.Pi.look H) (d := 3) (r := L.o) (n := D.n) (sz := 1) (es := io) fun k => ⟨(ho k).1, (ho k).2.len, by omega, (ho k).2.pure⟩
 obtain ⟨fc, kc, qc⟩ := reify_slv (hp := Go.Pi.look H) (d := 3) (r := L.c) (n := D.m) (sz := 4) (es := ic) fun k => ⟨(hc k).1, (hc k).2.len, by omega, (hc k).2.pure⟩
 obtain ⟨fp, kp, qp⟩ := reify_slv (hp := Go.Pi.look H) (d := 3) (r := L.p) (n := D.n) (sz := 4) (es := ip) fun k => ⟨(hp k).1, (hp k).2.len, by omega, (hp k).2.pure⟩
 obtain ⟨ig, fg, kg, qg, lg, gg⟩ : ∃ ig fg, reifyW (Go.Pi.look H) (reifyN (Go.Pi.look H) (3 + 1)) (slv L.g D.m) = some (sv D.m ig, fg) ∧ (∀ q ∈ fg, L.In D.m q) ∧ (0 < D.m → ig.length = D.m) ∧ ∀ i, i < D.m → 0 < D.n → ∃ es, ig[i]? = some (.slice es) ∧ RV es D.n (D.cel i) := by
  have inG : L.In D.m L.g := .inr (.inr (.inr (.inr (.inl rfl))))
  rcases Nat.eq_zero_or_pos D.m with h0 | h0
  ·exact ⟨[], [], by rw [h0]; simp [slv, sv, reifyW, PV.pureB], (fun q hq => by cases hq), (fun k => by omega), fun i hi => by omega⟩
  ·obtain ⟨es, k1, k2, k3⟩ := h.gg h0
   obtain ⟨rs, fr, j1, j2, j3, j4⟩ := mapR_rows (hp := Go.Pi.look H) (L := L) (d := 2) (n := D.n) (cel := D.cel) es 0 fun i hi => by
    rw [Nat.zero_add]
    exact ⟨k3 i (by omega), h.rr i (by omega)⟩
   refine ⟨rs, L.g :: fr, ?_, fun q hq => ?_, fun _ => by omega, fun i hi _ => ?_⟩
   ·rw [slv_pos h0, sv_pos h0]
    simp only [reifyW, k1, List.drop_zero]
    rw [List.take_of_length_le (by omega), j1]
    have h1 : Nat.ble (0 + D.m) es.length = true := by rw [ble_iff]; omega
    have h2 : Nat.blt 0 1 = true := rfl
    simp only [h1, h2, Bool.and_self, cond_true]
   ·rcases List.mem_cons.1 hq with rfl | hq
    ·exact inG
    ·obtain ⟨i, h5, h6⟩ := j4 q hq
     exact .inr (.inr (.inr (.inr (.inr (.inr ⟨i, by omega, by rw [h6, Nat.zero_add]⟩)))))
   ·have := j3 i (by omega)
    rw [Nat.zero_add] at this
    exact this
 obtain ⟨_, _, _, _, _, he, w1, w2, _⟩ := tv.cases
 simp only [PV.agg.injEq, List.cons.injEq, PV.bool.injEq, and_true] at he
 obtain ⟨rfl, rfl, rfl, rfl⟩ := he
 have pm := w1.cell.2.2.2.2
 have pu := w2.cell.2.2.2.2
 refine ⟨ib, io, ic, ig, ip, b, c, m, u, fb ++ (fo ++ (fc ++ (fg ++ fp))), ?_, ⟨tv, fun k => (hb k).2, fun k => (ho k).2, fun k => (hc k).2, lg, gg, fun k => (hp k).2⟩, fun q hq => ?_⟩
 ·show Pi.reify (Go.Pi.look H) (.ptr L.t 0 0) = _
  have e1 : (PV.ptr L.t 0 0).pureB = false := rfl
  unfold Pi.reify
  rw [e1]
  show reifyW (Go.Pi.look H) (reifyN (Go.Pi.look H) 5) (.ptr L.t 0 0) = _
  have e2 : reifyN (Go.Pi.look H) 5 (.agg [.int .i64 D.n, slv L.b D.m, slv L.o D.n, slv L.c D.m, slv L.g D.m, slv L.p D.n, .bool b, m, .bool c, u]) = some (.agg [.int .i64 D.n, sv D.m ib, sv D.n io, sv D.m ic, sv D.m ig, sv D.n ip, .bool b, m, .bool c, u], fb ++ (fo ++ (fc ++ (fg ++ fp)))) := by
   show reifyW (Go.Pi.look H) (reifyN (Go.Pi.look H) (3 + 1)) (.agg _) = _
   have p0 : reifyW (Go.Pi.look H) (reifyN (Go.Pi.look H) (3 + 1)) (.int .i64 D.n) = some (.int .i64 D.n, []) := reifyW_pure _ rfl
   have p1 : ∀ b, reifyW (Go.Pi.look H) (reifyN (Go.Pi.look H) (3 + 1)) (.bool b) = some (.bool b, []) := fun b => reifyW_pure _ rfl
   have p2 := reifyW_pure (hp := Go.Pi.look H) (sub := reifyN (Go.Pi.look H) (3 + 1)) m pm
   have p3 := reifyW_pure (hp := Go.Pi.look H) (sub := reifyN (Go.Pi.look H) (3 + 1)) u pu
   have hl : reifyWL (Go.Pi.look H) (reifyN (Go.Pi.look H) (3 + 1)) [.int .i64 D.n, slv L.b D.m, slv L.o D.n, slv L.c D.m, slv L.g D.m, slv L.p D.n, .bool b, m, .bool c, u] = some ([.int .i64 D.n, sv D.m ib, sv D.n io, sv D.m ic, sv D.m ig, sv D.n ip, .bool b, m, .bool c, u], fb ++ (fo ++ (fc ++ (fg ++ fp)))) := by
    simp only [reifyWL, p0, p1, p2, p3, kb, ko, kc, kg, kp, List.append_nil, List.nil_append]
   rw [reifyW, hl]
  simp only [reifyW, tt, List.getElem?_cons_zero, Option.bind_some, e2]
  rfl
 ·simp only [List.mem_append] at hq
  rcases hq with h1 | h1 | h1 | h1 | h1
  ·exact .inr (.inl (qb q h1))
  ·exact .inr (.inr (.inl (qo q h1)))
  ·exact .inr (.inr (.inr (.inl (qc q h1))))
  ·exact qg q h1
  ·exact .inr (.inr (.inr (.inr (.inr (.inl (qp q h1))))))
theorem zero_rat : PV.agg [.bool false, .nil, .bool false, .nil] = ratZero := rfl
theorem rv_reify {s : St} {j n : Nat} {es : List PV} {f : Nat → Rat} {Q : PV → Prop} (h : s.hp j = some ⟨4, es⟩) (hv : RV es n f) (hq : Q (.slice es)) : outK Q (.own j 0 n) s := by
 refine ⟨.slice es, [j], ?_, hq⟩
 unfold reify
 rw [show (PV.own j 0 n).pureB = false from rfl]
 exact reifyW_own h hv.len (by omega) hv.pure
def ptI (tv : PV) (ib : List PV) (D : Lin.Tab) : Nat → List PV → St → Prop := fun w vs st => ∃ (x k jj : Nat) (es : List PV), vs = [.int .i64 (x : Int), tv, .int .i64 (D.m : Int), .own jj 0 D.n, sv D.m ib] ∧ x + w = D.m ∧ RV es D.n (fun v => sumN x (fun i => if D.bas i = v then D.con i else 0)) ∧ jj < k ∧ st = ⟨k, [(jj, ⟨4, es⟩)], []⟩
theorem point_pure {S : Specs} (ib io ic ig ip : List PV) (b c : Bool) (m u : PV) (D : Lin.Tab) (hV : TabV ib io ic ig ip b c m u D) (hw : D.Wf) (hm : D.m < 1000) (hn : D.n < 1000) :
  CallW prog (specEnv prog G S) G A1 89 [tabV ib io ic ig ip b c m u D] ⟨0, [], []⟩ (outK fun r => ∃ es, r = .slice es ∧ RV es D.n D.pt) := by
 refine callW_of ann89 func89 rfl (by kernel_rfl) ?_
 have fin : ∀ {s : St} {j : Nat} {es : List PV}, s.hp j = some ⟨4, es⟩ → RV es D.n D.pt → outK (fun r => ∃ es, r = .slice es ∧ RV es D.n D.pt) (.own j 0 D.n) s := fun h1 h2 => rv_reify h1 h2 ⟨_, rfl, h2⟩
 obtain ⟨Q, hQ⟩ : ∃ Q, Q = (fun r : PV => ∃ es, r = .slice es ∧ RV es D.n D.pt) := ⟨_, rfl⟩
 rw [← hQ] at fin ⊢
 clear hQ
 have lb : lenPV (sv D.m ib) = some D.m := sv_len fun k => (hV.bb k).len
 have mk : D.n * 64 ≤ 140737488355328 := by omega
 have mk2 : D.n < 9223372036854775808 := by omega
 have mk3 : D.n * 4 ≤ 140737488355328 := by omega
 have zr1 : ratZero.cells.length = 4 := rfl
 have zr2 : ratZero.cells.all PV.cellOk = true := rfl
 unfold tabV
 simp [lb, mk, mk2, zero_rat, rep_eq, zr1, zr2]
 refine loopK_of (ptI (.eptr (.agg [.int .i64 D.n, sv D.m ib, sv D.n io, sv D.m ic, sv D.m ig, sv D.n ip, .bool b, m, .bool c, u]) 0) ib D) rfl rfl ?step D.m _ _ ?init
 case init => exact ⟨0, _, _, _, rfl, by omega, RV.zero D.n, by omega, rfl⟩
 case step =>
 rintro w vs st ⟨x, k, jj, es, rfl, hxw, hes, hjk, rfl⟩
 rcases Nat.eq_zero_or_pos w with h0 | h0
 ·obtain rfl : x = D.m := by omega
  simp []
  exact fin (by simp [St.hp, Go.Pi.look]) hes
 ·have hx : x < D.m := by omega
  have mp : 0 < D.m := by omega
  have hxx : (x : Int) < D.m := by omega
  have wx : IntKind.i64.wrap ((x : Int) + 1) = ((x + 1 : Nat) : Int) := w_i64 (by omega)
  have b1 := (hV.bb mp).at_ x hx
  have b1' := getE b1
  have ibl := (hV.bb mp).len
  have sb : sv D.m ib = .slice ib := sv_pos mp
  have sc : sv D.m ic = .slice ic := sv_pos mp
  have sum1 : ∀ v, sumN (x + 1) (fun i => if D.bas i = v then D.con i else 0) = if v = D.bas x then D.con x else sumN x (fun i => if D.bas i = v then D.con i else 0) := fun v => by
   show sumN x _ + (if D.bas x = v then D.con x else 0) = _
   by_cases hv : v = D.bas x
   ·rw [if_pos hv, if_pos hv.symm, sumN_zero' fun i hi => by rw [if_neg fun e => by have := hw.ib i x (by omega) hx (by rw [e, hv]); omega]]
    grind
   ·rw [if_neg hv, if_neg fun e => hv e.symm]; grind
  have next : ∀ es', RV es' D.n (fun v => sumN (x + 1) (fun i => if D.bas i = v then D.con i else 0)) → ∀ k', jj < k' → ∃ m', m' < w ∧ ptI (.eptr (.agg [.int .i64 D.n, sv D.m ib, sv D.n io, sv D.m ic, sv D.m ig, sv D.n ip, .bool b, m, .bool c, u]) 0) ib D m' [.int .i64 ((x + 1 : Nat) : Int), .eptr (.agg [.int .i64 D.n, sv D.m ib, sv D.n io, sv D.m ic, sv D.m ig, sv D.n ip, .bool b, m, .bool c, u]) 0, .int .i64 (D.m : Int), .own jj 0 D.n, sv D.m ib] ⟨k', [(jj, ⟨4, es'⟩)], []⟩ := fun es' h k' hk' => ⟨w - 1, by omega, x + 1, k', jj, es', rfl, by omega, h, hk', rfl⟩
  rw [sb, sc] at next ⊢
  have c1l : (PV.int .i64 (D.bas x)).cells.length = 1 := rfl
  rcases Nat.lt_or_ge (D.bas x) D.n with hA | hA
  ·have hA1 : (D.bas x : Int) < (D.n : Int) := by omega
   obtain ⟨b2, m2, cc2, u2, d2, l1, l2, l3, l4⟩ := (hV.cc mp).get hx
   obtain ⟨x1, x2, x3, x4, x5⟩ := l3.cell
   obtain ⟨y1, y2, y3, y4, y5⟩ := l4.cell
   have l1' := getE l1
   have icl := (hV.cc mp).len
   obtain ⟨b3, m3, cc3, u3, d3, o1, o2, o3, o4⟩ := hes.get hA
   have o1' := getE o1
   have esl := hes.len
   simp [b1', hxx, hx, wx, hA, hA1, l1', x1, y1, o1', ibl, icl, esl]
   exact next _ ((hes.set (k := D.bas x) l2).congr fun v _ => (sum1 v).symm) _ (by omega)
  ·have hA1 : ¬ (D.bas x : Int) < (D.n : Int) := by omega
   have hA2 : ¬ D.bas x < D.n := by omega
   simp [b1', hxx, hx, wx, hA1, ibl]
   exact next _ (hes.congr fun v hv => by rw [sum1, if_neg (by omega)]) _ (by omega)
def gq (l : List Rat) (i : Nat) : Rat := l.getD i 0
def IsRL (v : PV) (l : List Rat) : Prop := (v = .nil ∧ l = []) ∨ ∃ es, v = .slice es ∧ RV es l.length (gq l)
noncomputable def rl (v : PV) : List Rat := the (IsRL v)
theorem IsRL.inj {v : PV} {l m : List Rat} (h : IsRL v l) (h' : IsRL v m) : l = m := by
 rcases h with ⟨rfl, rfl⟩ | ⟨es, rfl, h⟩
 ·rcases h' with ⟨_, rfl⟩ | ⟨es, e, _⟩
  ·rfl
  ·cases e
 ·rcases h' with ⟨e, _⟩ | ⟨es', e, h'⟩
  ·cases e
  ·cases e
   have hl : l.length = m.length := by rw [← h.len, h'.len]
   refine List.ext_getElem hl fun i h1 h2 => ?_
   obtain ⟨v, k1, k2⟩ := h.at_ i h1
   obtain ⟨w, k3, k4⟩ := h'.at_ i h2
   rw [k1] at k3
   cases k3
   have := k2.inj k4
   simpa [gq, List.getD, h1, h2] using this
theorem rl_eq {v : PV} {l : List Rat} (h : IsRL v l) : rl v = l := the_eq h fun _ h' => IsRL.inj h' h
theorem IsRL.len {v : PV} {l : List Rat} (h : IsRL v l) : lenPV v = some l.length := by
 rcases h with ⟨rfl, rfl⟩ | ⟨es, rfl, h⟩
 ·rfl
 ·simp [lenPV, h.len]
theorem IsRL.pure {v : PV} {l : List Rat} (h : IsRL v l) : v.pureB = true := by
 rcases h with ⟨rfl, _⟩ | ⟨es, rfl, h⟩
 ·rfl
 ·simp only [PV.pureB]
theorem IsRL.at {v : PV} {l : List Rat} (h : IsRL v l) {i : Nat} (hi : i < l.length) : ∃ es, v = .slice es ∧ RV es l.length (gq l) := by
 rcases h with ⟨_, rfl⟩ | h
 ·simp at hi
 ·exact h
def LFits (l : List Rat) (K : Nat) : Prop := ∀ i, i < l.length → RFits (gq l i) K
def dotS (a b : List Rat) (n : Nat) : Rat := sumN n (fun i => gq a i * gq b i)
def dotL (a b : List Rat) : Rat := dotS a b a.length
def dotR : CRel | [v, w], r => IsRat r (dotL (rl v) (rl w)) | _, _ => False
theorem dotS_fits {a b : List Rat} {K : Nat} (ha : LFits a K) (hb : LFits b K) (hl : a.length ≤ b.length) : ∀ n, n ≤ a.length → RFits (dotS a b n) (1 + n * (2 * K + 1))
 | 0, _ => RFits.zero (by omega)
 | n + 1, h => by
  have h1 := dotS_fits ha hb hl n (by omega)
  have h2 := (ha n (by omega)).mul (hb n (by omega))
  refine (h1.add h2).mono ?_
  rw [Nat.add_mul]; omega
def dotI (va vb : PV) (a b : List Rat) : Nat → List PV → St → Prop := fun w vs st => ∃ (i k b4 b5 : Nat) (sv zv : PV), vs = [.int .i64 (i : Int), .ptr b5 0 0, va, vb, .int .i64 (a.length : Int), .ptr b4 0 0] ∧ i + w = a.length ∧ IsRat sv (dotS a b i) ∧ (∃ z, IsRat zv z) ∧ b4 < b5 ∧ b5 < k ∧ st = ⟨k, [(b5, ⟨4, [sv]⟩), (b4, ⟨4, [zv]⟩)], []⟩
theorem dot_ok (va vb : PV) (a b : List Rat) (K : Nat) (ha : IsRL va a) (hb : IsRL vb b) (hl : a.length ≤ b.length) (hn : a.length < 1000) (fa : LFits a K) (fb : LFits b K) (hK : 1 + a.length * (2 * K + 1) ≤ 90000) (hK2 : K ≤ 30000) : Gives prog G 72 [va, vb] (dotR [va, vb]) := by
 have fin : ∀ {r : PV} {s : St}, IsRat r (dotS a b a.length) → outK (dotR [va, vb]) r s := fun h => outK_pure h.pure (by simp only [dotR, rl_eq ha, rl_eq hb]; exact h)
 have la := ha.len
 refine gives (S := [(30, rsignR), (59, rmulR), (58, raddR)]) (by kernel_rfl) (by kernel_rfl) (callW_of ann72 func72 rfl (by kernel_rfl) ?_)
 simp [la]
 refine loopK_of (dotI va vb a b) rfl rfl ?step a.length _ _ ?init
 case init => exact ⟨0, _, _, _, ratZero, ratZero, rfl, by omega, isRat_zero, ⟨0, isRat_zero⟩, by omega, by omega, rfl⟩
 case step =>
 rintro w vs st ⟨i, k, b4, b5, sv, zv, rfl, hiw, hs, ⟨z, hz⟩, h45, h5, rfl⟩
 obtain ⟨sb, sm, sc, su, sd, rfl, s1, s2, _⟩ := hs.cases
 obtain ⟨s11, s12, s13, s14, s15⟩ := s1.cell
 obtain ⟨s21, s22, s23, s24, s25⟩ := s2.cell
 obtain ⟨zb, zm, zc, zu, zd, rfl, z1, z2, _⟩ := hz.cases
 obtain ⟨z11, z12, z13, z14, z15⟩ := z1.cell
 obtain ⟨z21, z22, z23, z24, z25⟩ := z2.cell
 have n54 : ¬ b5 = b4 := by omega
 have n45 : ¬ b4 = b5 := by omega
 rcases Nat.eq_zero_or_pos w with h0 | h0
 ·have hi : i = a.length := by omega
  subst hi
  simp [s11, s21, n54, n45]
  exact fin hs
 ·have hi : i < a.length := by omega
  have hii : (i : Int) < a.length := by omega
  have wi : IntKind.i64.wrap ((i : Int) + 1) = ((i + 1 : Nat) : Int) := w_i64 (by omega)
  obtain ⟨ea, rfl, ra⟩ := ha.at hi
  obtain ⟨eb, rfl, rb⟩ := hb.at (show i < b.length by omega)
  obtain ⟨b2, m2, cc2, u2, d2, g1, g2, g3, g4⟩ := ra.get hi
  obtain ⟨x1, x2, x3, x4, x5⟩ := g3.cell
  obtain ⟨y1, y2, y3, y4, y5⟩ := g4.cell
  obtain ⟨b3, m3, cc3, u3, d3, j1, j2, j3, j4⟩ := rb.get (show i < b.length by omega)
  obtain ⟨v1, v2, v3, v4, v5⟩ := j3.cell
  obtain ⟨w1, w2, w3, w4, w5⟩ := j4.cell
  have g1' := getE g1
  have j1' := getE j1
  have eal := ra.len
  have ebl := rb.len
  have hib : i < b.length := by omega
  have next : ∀ sv', IsRat sv' (dotS a b (i + 1)) → ∀ k', b5 < k' → ∃ m', m' < w ∧ dotI (.slice ea) (.slice eb) a b m' [.int .i64 ((i + 1 : Nat) : Int), .ptr b5 0 0, .slice ea, .slice eb, .int .i64 (a.length : Int), .ptr b4 0 0] ⟨k', [(b5, ⟨4, [sv']⟩), (b4, ⟨4, [.agg [.bool zb, zm, .bool zc, zu]]⟩)], []⟩ := fun sv' h k' hk' => ⟨w - 1, by omega, i + 1, k', b4, b5, sv', _, rfl, by omega, h, ⟨z, hz⟩, h45, hk', rfl⟩
  have sum1 : dotS a b (i + 1) = dotS a b i + gq a i * gq b i := rfl
  simp [hi, hii, g1', eal]
  refine callK_pure rfl (by simp [PV.pureL, g2.pure]) (rsign_ok _ _ g2) fun r hr => ?_
  simp only [rsignR, ratv_eq g2] at hr
  subst hr
  by_cases hz1 : gq a i = 0
  ·have hs1 : ((gq a i).num.sign != 0) = false := by rw [num_sign_ne]; simp [hz1]
   simp [hs1, wi]
   exact next _ (by rw [sum1, hz1, Rat.zero_mul, Rat.add_zero]; exact hs) _ (by omega)
  ·have hs1 : ((gq a i).num.sign != 0) = true := by rw [num_sign_ne]; simp [hz1]
   simp [hs1, hib, j1', ebl]
   refine callK_pure rfl (by simp [PV.pureL, j2.pure]) (rsign_ok _ _ j2) fun r hr => ?_
   simp only [rsignR, ratv_eq j2] at hr
   subst hr
   by_cases hz2 : gq b i = 0
   ·have hs2 : ((gq b i).num.sign != 0) = false := by rw [num_sign_ne]; simp [hz2]
    simp [hs2, wi]
    exact next _ (by rw [sum1, hz2, Rat.mul_zero, Rat.add_zero]; exact hs) _ (by omega)
   ·have hs2 : ((gq b i).num.sign != 0) = true := by rw [num_sign_ne]; simp [hz2]
    have fS := (dotS_fits fa fb hl i (by omega))
    have fS2 : 1 + i * (2 * K + 1) ≤ 90000 := Nat.le_trans (Nat.add_le_add_left (Nat.mul_le_mul_right _ (by omega)) 1) hK
    simp [run_draw, hs2, hi, hib, g1', j1', eal, ebl, n45]
    refine dcallK_pure rfl (by simp [PV.pureL, g2.pure, j2.pure]) (rmul_ok _ _ _ _ g2 j2 ((fa i hi).mono (by omega)) ((fb i hib).mono (by omega))) fun r hr => ?_
    simp only [rmulR, ratv_eq g2, ratv_eq j2] at hr
    simp []
    refine dcallK_pure rfl (by simp [PV.pureL, hs.pure, hr.pure]) (radd_ok _ _ _ _ hs hr (fS.mono (by omega)) (((fa i hi).mul (fb i hib)).mono (by omega))) fun r9 hr9 => ?_
    simp only [raddR, ratv_eq hs, ratv_eq hr] at hr9
    obtain ⟨b8, m8, cc8, u8, d8, rfl, t1, t2, _⟩ := hr.cases
    obtain ⟨t11, t12, t13, t14, t15⟩ := t1.cell
    obtain ⟨t21, t22, t23, t24, t25⟩ := t2.cell
    have hr9' := hr9
    obtain ⟨b9, m9, cc9, u9, d9, rfl, o1, o2, _⟩ := hr9'.cases
    obtain ⟨o11, o12, o13, o14, o15⟩ := o1.cell
    obtain ⟨o21, o22, o23, o24, o25⟩ := o2.cell
    simp [wi, n45, x2, y2, v2, w2, s12, s22, t12, t22, o11, o21]
    refine ⟨logOk_free (by simp only [List.map_cons, List.map_nil, tri, List.isEmpty_nil, List.isEmpty_cons]; decide +kernel), ?_⟩
    exact next _ (by rw [sum1]; exact hr9) _ (by omega)
def rayF (D : Lin.Tab) (j : Nat) (q : Rat) (x : Nat) (v : Nat) : Rat := (if D.off j = v then q else 0) - sumN x (fun i => if D.bas i = v then q * D.cel i j else 0)
def rayI (tv qv : PV) (ib : List PV) (D : Lin.Tab) (j : Nat) (q : Rat) : Nat → List PV → St → Prop := fun w vs st => ∃ (x k jj b5 : Nat) (es : List PV), vs = [.int .i64 (x : Int), tv, .int .i64 (D.m : Int), .own jj 0 D.n, sv D.m ib, .ptr b5 0 0, .int .i64 (j : Int)] ∧ x + w = D.m ∧ RV es D.n (rayF D j q x) ∧ jj < k ∧ b5 < jj ∧ st = ⟨k, [(jj, ⟨4, es⟩), (b5, ⟨4, [qv]⟩)], []⟩
theorem ray_pure {S : Specs} (hS2 : Go.Pi.look S 59 = some rmulR) (hS3 : Go.Pi.look S 82 = some rnegR) (ib io ic ig ip : List PV) (b c : Bool) (m u : PV) (D : Lin.Tab) (j : Nat) (qv : PV) (q : Rat) (hV : TabV ib io ic ig ip b c m u D) (hw : D.Wf) (hm : D.m < 1000) (hn : D.n < 1000) (hj : j < D.n) (hq : IsRat qv q) (fq : RFits q 30000) (fd : TFits D 15000) :
  CallW prog (specEnv prog G S) G A1 53 [tabV ib io ic ig ip b c m u D, .int .i64 j, qv] ⟨0, [], []⟩ (outK fun r => ∃ es, r = .slice es ∧ RV es D.n (D.ray j q)) := by
 obtain ⟨qb, qm, qc, qu, qd, rfl, q1, q2, _⟩ := hq.cases
 obtain ⟨q11, q12, q13, q14, q15⟩ := q1.cell
 obtain ⟨q21, q22, q23, q24, q25⟩ := q2.cell
 refine callW_of ann53 func53 rfl (by kernel_rfl) ?_
 have fin : ∀ {s : St} {jj : Nat} {es : List PV}, s.hp jj = some ⟨4, es⟩ → RV es D.n (D.ray j q) → outK (fun r => ∃ es, r = .slice es ∧ RV es D.n (D.ray j q)) (.own jj 0 D.n) s := fun h1 h2 => rv_reify h1 h2 ⟨_, rfl, h2⟩
 obtain ⟨Q, hQ⟩ : ∃ Q, Q = (fun r : PV => ∃ es, r = .slice es ∧ RV es D.n (D.ray j q)) := ⟨_, rfl⟩
 rw [← hQ] at fin ⊢
 clear hQ
 have np : 0 < D.n := by omega
 have lb : lenPV (sv D.m ib) = some D.m := sv_len fun k => (hV.bb k).len
 have mk : D.n * 64 ≤ 140737488355328 := by omega
 have mk2 : D.n < 9223372036854775808 := by omega
 have mk3 : D.n * 4 ≤ 140737488355328 := by omega
 have zr1 : ratZero.cells.length = 4 := rfl
 have zr2 : ratZero.cells.all PV.cellOk = true := rfl
 have so : sv D.n io = .slice io := sv_pos np
 have o1 := (hV.oo np).at_ j hj
 have o1' := getE o1
 have iol := (hV.oo np).len
 have rz := (RV.zero D.n)
 unfold tabV
 have ray0 : ∀ v, (if v = D.off j then q else 0) = rayF D j q 0 v := fun v => by
  simp only [rayF, sumN]
  by_cases h : v = D.off j
  ·rw [if_pos h, if_pos h.symm]; grind
  ·rw [if_neg h, if_neg (fun e => h e.symm)]; grind
 have ray1 : D.n ≤ D.off j → ∀ v, v < D.n → 0 = rayF D j q 0 v := fun ho v hv => by
  simp only [rayF, sumN]
  rw [if_neg (by omega)]; grind
 rcases Nat.lt_or_ge (D.off j) D.n with hA | hA
 ·have hA1 : (D.off j : Int) < (D.n : Int) := by omega
  obtain ⟨b3, m3, cc3, u3, d3, z1, z2, z3, z4⟩ := rz.get hA
  have z1' := getE z1
  simp [lb, mk, mk2, zero_rat, rep_eq, zr1, zr2, q11, q21, so, o1', hj, iol, hA, hA1, z1']
  refine loopK_of (rayI (.eptr (.agg [.int .i64 D.n, sv D.m ib, .slice io, sv D.m ic, sv D.m ig, sv D.n ip, .bool b, m, .bool c, u]) 0) (.agg [.bool qb, qm, .bool qc, qu]) ib D j q) rfl rfl ?step D.m _ _ ?init
  case init => exact ⟨0, _, _, _, _, rfl, by omega, (rz.set (k := D.off j) hq).congr fun v _ => ray0 v, by omega, by omega, rfl⟩
  case step =>
  rintro w vs st ⟨x, k, jj, b5, es, rfl, hxw, hes, hjk, hbj, rfl⟩
  have nbj : ¬ jj = b5 := by omega
  rcases Nat.eq_zero_or_pos w with h0 | h0
  ·obtain rfl : x = D.m := by omega
   simp []
   exact fin (by simp [St.hp, Go.Pi.look, beq_lit]) hes
  ·have hx : x < D.m := by omega
   have mp : 0 < D.m := by omega
   have hxx : (x : Int) < D.m := by omega
   have wx : IntKind.i64.wrap ((x : Int) + 1) = ((x + 1 : Nat) : Int) := w_i64 (by omega)
   have b1 := (hV.bb mp).at_ x hx
   have b1' := getE b1
   have ibl := (hV.bb mp).len
   have sb : sv D.m ib = .slice ib := sv_pos mp
   have sg' : sv D.m ig = .slice ig := sv_pos mp
   have sum1 : ∀ v, rayF D j q (x + 1) v = if v = D.bas x then -(q * D.cel x j) else rayF D j q x v := fun v => by
    show (if D.off j = v then q else 0) - (sumN x _ + (if D.bas x = v then q * D.cel x j else 0)) = _
    unfold rayF
    by_cases hv : v = D.bas x
    ·rw [if_pos hv, if_pos hv.symm, if_neg (fun e => hw.dj x j hx hj (by rw [← hv, e])), sumN_zero' fun i hi => by rw [if_neg fun e => by have := hw.ib i x (by omega) hx (by rw [e, hv]); omega]]
     grind
    ·have hv2 : (if D.bas x = v then q * D.cel x j else 0) = 0 := if_neg fun e => hv e.symm
     rw [if_neg hv, hv2]; grind
   have next : ∀ es', RV es' D.n (rayF D j q (x + 1)) → ∀ k', jj < k' → ∃ m', m' < w ∧ rayI (.eptr (.agg [.int .i64 D.n, sv D.m ib, .slice io, sv D.m ic, sv D.m ig, sv D.n ip, .bool b, m, .bool c, u]) 0) (.agg [.bool qb, qm, .bool qc, qu]) ib D j q m' [.int .i64 ((x + 1 : Nat) : Int), (.eptr (.agg [.int .i64 D.n, sv D.m ib, .slice io, sv D.m ic, sv D.m ig, sv D.n ip, .bool b, m, .bool c, u]) 0), .int .i64 (D.m : Int), .own jj 0 D.n, sv D.m ib, .ptr b5 0 0, .int .i64 (j : Int)] ⟨k', [(jj, ⟨4, es'⟩), (b5, ⟨4, [.agg [.bool qb, qm, .bool qc, qu]]⟩)], []⟩ := fun es' h k' hk' => ⟨w - 1, by omega, x + 1, k', jj, b5, es', rfl, by omega, h, hk', hbj, rfl⟩
   rw [sb, sg'] at next ⊢
   rcases Nat.lt_or_ge (D.bas x) D.n with hB | hB
   ·have hB1 : (D.bas x : Int) < (D.n : Int) := by omega
    obtain ⟨er, e1, e2⟩ := hV.gg x hx np
    have e1' := getE e1
    have igl := hV.gl mp
    obtain ⟨b2, m2, cc2, u2, d2, l1, l2, l3, l4⟩ := e2.get hj
    obtain ⟨x1, x2, x3, x4, x5⟩ := l3.cell
    obtain ⟨y1, y2, y3, y4, y5⟩ := l4.cell
    have l1' := getE l1
    have erl := e2.len
    obtain ⟨b3, m3, cc3, u3, d3, o1, o2, o3, o4⟩ := hes.get hB
    have o1' := getE o1
    have esl := hes.len
    simp [run_draw, b1', hxx, hx, hB1, e1', l1', hj, erl, igl, ibl, nbj]
    refine dcallK_pure hS2 (by simp [PV.pureL, hq.pure, l2.pure]) (rmul_ok _ _ _ _ hq l2 (fq.mono (by omega)) ((fd.cel x j hx hj).mono (by omega))) fun r hr => ?_
    simp only [rmulR, ratv_eq hq, ratv_eq l2] at hr
    simp []
    refine dcallK_pure hS3 (by simp [PV.pureL, hr.pure]) (rneg_ok _ _ hr) fun r9 hr9 => ?_
    simp only [rnegR, ratv_eq hr] at hr9
    obtain ⟨b8, m8, cc8, u8, d8, rfl, t1, t2, _⟩ := hr.cases
    obtain ⟨t11, t12, t13, t14, t15⟩ := t1.cell
    obtain ⟨t21, t22, t23, t24, t25⟩ := t2.cell
    have hr9' := hr9
    obtain ⟨b9, m9, cc9, u9, d9, rfl, v1, v2, _⟩ := hr9'.cases
    obtain ⟨v11, v12, v13, v14, v15⟩ := v1.cell
    obtain ⟨v21, v22, v23, v24, v25⟩ := v2.cell
    simp [wx, hB, x2, y2, q12, q22, t12, t22, v11, v21, o1', esl]
    refine ⟨logOk_free (by simp only [List.map_cons, List.map_nil, tri, List.isEmpty_nil, List.isEmpty_cons]; decide +kernel), ?_⟩
    exact next _ ((hes.set (k := D.bas x) hr9).congr fun v _ => (sum1 v).symm) _ (by omega)
   ·have hB1 : ¬ (D.bas x : Int) < (D.n : Int) := by omega
    have hB2 : ¬ D.bas x < D.n := by omega
    simp [b1', hxx, hx, wx, hB1, ibl]
    exact next _ (hes.congr fun v hv => by rw [sum1, if_neg (by omega)]) _ (by omega)
 ·have hA1 : ¬ (D.off j : Int) < (D.n : Int) := by omega
  have hA2 : ¬ D.off j < D.n := by omega
  simp [lb, mk, mk2, zero_rat, rep_eq, zr1, zr2, q11, q21, so, o1', hj, iol, hA1]
  refine loopK_of (rayI (.eptr (.agg [.int .i64 D.n, sv D.m ib, .slice io, sv D.m ic, sv D.m ig, sv D.n ip, .bool b, m, .bool c, u]) 0) (.agg [.bool qb, qm, .bool qc, qu]) ib D j q) rfl rfl ?step D.m _ _ ?init
  case init => exact ⟨0, _, _, _, _, rfl, by omega, rz.congr fun v hv => ray1 hA v hv, by omega, by omega, rfl⟩
  case step =>
  rintro w vs st ⟨x, k, jj, b5, es, rfl, hxw, hes, hjk, hbj, rfl⟩
  have nbj : ¬ jj = b5 := by omega
  rcases Nat.eq_zero_or_pos w with h0 | h0
  ·obtain rfl : x = D.m := by omega
   simp []
   exact fin (by simp [St.hp, Go.Pi.look, beq_lit]) hes
  ·have hx : x < D.m := by omega
   have mp : 0 < D.m := by omega
   have hxx : (x : Int) < D.m := by omega
   have wx : IntKind.i64.wrap ((x : Int) + 1) = ((x + 1 : Nat) : Int) := w_i64 (by omega)
   have b1 := (hV.bb mp).at_ x hx
   have b1' := getE b1
   have ibl := (hV.bb mp).len
   have sb : sv D.m ib = .slice ib := sv_pos mp
   have sg' : sv D.m ig = .slice ig := sv_pos mp
   have sum1 : ∀ v, rayF D j q (x + 1) v = if v = D.bas x then -(q * D.cel x j) else rayF D j q x v := fun v => by
    show (if D.off j = v then q else 0) - (sumN x _ + (if D.bas x = v then q * D.cel x j else 0)) = _
    unfold rayF
    by_cases hv : v = D.bas x
    ·rw [if_pos hv, if_pos hv.symm, if_neg (fun e => hw.dj x j hx hj (by rw [← hv, e])), sumN_zero' fun i hi => by rw [if_neg fun e => by have := hw.ib i x (by omega) hx (by rw [e, hv]); omega]]
     grind
    ·have hv2 : (if D.bas x = v then q * D.cel x j else 0) = 0 := if_neg fun e => hv e.symm
     rw [if_neg hv, hv2]; grind
   have next : ∀ es', RV es' D.n (rayF D j q (x + 1)) → ∀ k', jj < k' → ∃ m', m' < w ∧ rayI (.eptr (.agg [.int .i64 D.n, sv D.m ib, .slice io, sv D.m ic, sv D.m ig, sv D.n ip, .bool b, m, .bool c, u]) 0) (.agg [.bool qb, qm, .bool qc, qu]) ib D j q m' [.int .i64 ((x + 1 : Nat) : Int), (.eptr (.agg [.int .i64 D.n, sv D.m ib, .slice io, sv D.m ic, sv D.m ig, sv D.n ip, .bool b, m, .bool c, u]) 0), .int .i64 (D.m : Int), .own jj 0 D.n, sv D.m ib, .ptr b5 0 0, .int .i64 (j : Int)] ⟨k', [(jj, ⟨4, es'⟩), (b5, ⟨4, [.agg [.bool qb, qm, .bool qc, qu]]⟩)], []⟩ := fun es' h k' hk' => ⟨w - 1, by omega, x + 1, k', jj, b5, es', rfl, by omega, h, hk', hbj, rfl⟩
   rw [sb, sg'] at next ⊢
   rcases Nat.lt_or_ge (D.bas x) D.n with hB | hB
   ·have hB1 : (D.bas x : Int) < (D.n : Int) := by omega
    obtain ⟨er, e1, e2⟩ := hV.gg x hx np
    have e1' := getE e1
    have igl := hV.gl mp
    obtain ⟨b2, m2, cc2, u2, d2, l1, l2, l3, l4⟩ := e2.get hj
    obtain ⟨x1, x2, x3, x4, x5⟩ := l3.cell
    obtain ⟨y1, y2, y3, y4, y5⟩ := l4.cell
    have l1' := getE l1
    have erl := e2.len
    obtain ⟨b3, m3, cc3, u3, d3, o1, o2, o3, o4⟩ := hes.get hB
    have o1' := getE o1
    have esl := hes.len
    simp [run_draw, b1', hxx, hx, hB1, e1', l1', hj, erl, igl, ibl, nbj]
    refine dcallK_pure hS2 (by simp [PV.pureL, hq.pure, l2.pure]) (rmul_ok _ _ _ _ hq l2 (fq.mono (by omega)) ((fd.cel x j hx hj).mono (by omega))) fun r hr => ?_
    simp only [rmulR, ratv_eq hq, ratv_eq l2] at hr
    simp []
    refine dcallK_pure hS3 (by simp [PV.pureL, hr.pure]) (rneg_ok _ _ hr) fun r9 hr9 => ?_
    simp only [rnegR, ratv_eq hr] at hr9
    obtain ⟨b8, m8, cc8, u8, d8, rfl, t1, t2, _⟩ := hr.cases
    obtain ⟨t11, t12, t13, t14, t15⟩ := t1.cell
    obtain ⟨t21, t22, t23, t24, t25⟩ := t2.cell
    have hr9' := hr9
    obtain ⟨b9, m9, cc9, u9, d9, rfl, v1, v2, _⟩ := hr9'.cases
    obtain ⟨v11, v12, v13, v14, v15⟩ := v1.cell
    obtain ⟨v21, v22, v23, v24, v25⟩ := v2.cell
    simp [wx, hB, x2, y2, q12, q22, t12, t22, v11, v21, o1', esl]
    refine ⟨logOk_free (by simp only [List.map_cons, List.map_nil, tri, List.isEmpty_nil, List.isEmpty_cons]; decide +kernel), ?_⟩
    exact next _ ((hes.set (k := D.bas x) hr9).congr fun v _ => (sum1 v).symm) _ (by omega)
   ·have hB1 : ¬ (D.bas x : Int) < (D.n : Int) := by omega
    have hB2 : ¬ D.bas x < D.n := by omega
    simp [b1', hxx, hx, wx, hB1, ibl]
    exact next _ (hes.congr fun v hv => by rw [sum1, if_neg (by omega)]) _ (by omega)
end Go.Proofs.Tryz
