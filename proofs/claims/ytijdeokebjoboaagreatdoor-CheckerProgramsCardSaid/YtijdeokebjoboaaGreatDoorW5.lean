/- The machine on symbols: linear, the first dictionary. No condition. -/
import Derived.Test.YtijdeokebjoboaaGreatDoorW4
set_option linter.unusedVariables false
set_option linter.unusedSimpArgs false
set_option linter.unusedSectionVars false
set_option linter.unnecessarySimpa false
set_option maxHeartbeats 4000000
set_option maxRecDepth 100000
namespace Go.Proofs.Tryz
open Go Go.Pi Go.Num Go.Lin
variable [Hole] {G : Nat → Option PV}
theorem look_del_ne {q r : Nat} {H : List (Nat × Ent)} (h : q ≠ r) : Go.Pi.look (del H r) q = Go.Pi.look H q := by rw [look_del_eq, if_neg h]
theorem del_sub {r : Nat} : ∀ {H : List (Nat × Ent)} {p : Nat × Ent}, p ∈ del H r → p ∈ H
  | [], _, h => by cases h
  | (i, x) :: H, p, h => by
    simp only [del, Bool.cond_eq_ite] at h
    split at h
    · first | exact List.mem_cons_of_mem _ h | exact List.mem_cons_of_mem _ (del_sub h)
    · rcases List.mem_cons.1 h with rfl | h
      · simp
      · exact List.mem_cons_of_mem _ (del_sub h)
theorem del_lt {n r : Nat} {H : List (Nat × Ent)} (h : ∀ p ∈ H, p.1 < n) : ∀ p ∈ del H r, p.1 < n := fun p hp => h p (del_sub hp)
theorem NV.snoc {es : List PV} {x v : Nat} {f : Nat → Nat} (h : NV es x f) (e : f x = v) : NV (es ++ [.int .i64 v]) (x + 1) f := by
  refine ⟨by simp [h.len], fun k hk => ?_⟩
  rcases Nat.lt_or_ge k x with h1 | h1
  · rw [List.getElem?_append_left (by rw [h.len]; exact h1)]; exact h.at_ k h1
  · obtain rfl : k = x := by omega
    rw [List.getElem?_append_right (by rw [h.len]; exact Nat.le_refl _), h.len, Nat.sub_self, e]; rfl
theorem RV.snoc {es : List PV} {x : Nat} {f : Nat → Rat} {v : PV} (h : RV es x f) (hv : IsRat v (f x)) : RV (es ++ [v]) (x + 1) f := by
  refine ⟨by simp [h.len], fun k hk => ?_⟩
  rcases Nat.lt_or_ge k x with h1 | h1
  · rw [List.getElem?_append_left (by rw [h.len]; exact h1)]; exact h.at_ k h1
  · obtain rfl : k = x := by omega
    exact ⟨v, by rw [List.getElem?_append_right (by rw [h.len]; exact Nat.le_refl _), h.len, Nat.sub_self]; rfl, hv⟩
def code (φ : Nat → Nat) (x : Lg) : Lg := ⟨x.ix, x.rd.map φ, x.wr.map φ⟩
theorem logOk_code {m : List Nat} {l : List Lg} (φ : Nat → Nat) (h : logOk m (l.map (code φ)) = true) : logOk m l = true := by
  unfold logOk at h ⊢
  refine List.all_eq_true.2 fun x hx => ?_
  have h1 := List.all_eq_true.1 h (code φ x) (List.mem_map_of_mem hx)
  cases hw : x.wr.isEmpty with
  | true => rfl
  | false =>
    have hw2 : (code φ x).wr.isEmpty = false := by simp [code]; simpa using hw
    rw [hw2] at h1
    simp only [cond_false] at h1 ⊢
    refine List.all_eq_true.2 fun y hy => ?_
    have h2 := List.all_eq_true.1 h1 (code φ y) (List.mem_map_of_mem hy)
    have e1 : (code φ x).ix = x.ix := rfl
    have e2 : (code φ y).ix = y.ix := rfl
    rw [e1, e2] at h2
    cases hb : Nat.beq x.ix y.ix with
    | true => rfl
    | false =>
      rw [hb] at h2
      simp only [cond_false] at h2 ⊢
      cases hs : share x.wr (y.rd ++ y.wr) with
      | false => rfl
      | true =>
        obtain ⟨r, k1, k2⟩ := (share_iff _ _).1 hs
        have : share (code φ x).wr ((code φ y).rd ++ (code φ y).wr) = true := (share_iff _ _).2 ⟨φ r, List.mem_map_of_mem k1, by
          rcases List.mem_append.1 k2 with k | k
          · exact List.mem_append_left _ (List.mem_map_of_mem k)
          · exact List.mem_append_right _ (List.mem_map_of_mem k)⟩
        rw [this] at h2
        exact h2
theorem uniform_own1 (r l n : Nat) : uniform 1 [.own r l n] = true := rfl
theorem look_one_cons (j : Nat) (e : Ent) (H : List (Nat × Ent)) : Go.Pi.look ((j, e) :: H) j = some e := by simp [Go.Pi.look]
structure ProgV (io ir ib : List PV) (m n : Nat) (a : Nat → Nat → Rat) (b c : Nat → Rat) : Prop where
  obj : RV io n c
  rows : 0 < m → ir.length = m ∧ ∀ i, i < m → ∃ es, ir[i]? = some (.slice es) ∧ RV es n (a i)
  bounds : 0 < m → RV ib m b
def bgI1 (vo vr vb : PV) (n b1 bt : Nat) (c : Nat → Rat) (H : List (Nat × Ent)) (Z : List Nat) (n0 : Nat) : Nat → List PV → St → Prop := fun w vs st => ∃ (x k ro rp : Nat) (Hk : List (Nat × Ent)), vs = [.int .i64 (x : Int), .ptr bt 0 0, .int .i64 (n : Int), vo, .ptr b1 0 0] ∧ x + w = n ∧
  Go.Pi.look Hk b1 = some ⟨3, [.agg [vo, vr, vb]]⟩ ∧ Go.Pi.look Hk bt = some ⟨10, [.agg [.int .i64 n, .nil, slv ro x, .nil, .nil, slv rp x, .bool false, .nil, .bool false, .nil]]⟩ ∧
  (0 < x → (∃ es, Go.Pi.look Hk ro = some ⟨1, es⟩ ∧ NV es x fun j => j) ∧ (∃ es, Go.Pi.look Hk rp = some ⟨4, es⟩ ∧ RV es x fun j => -(c j)) ∧ ro ≠ rp ∧ n0 ≤ ro ∧ n0 ≤ rp ∧ ro ≠ b1 ∧ ro ≠ bt ∧ rp ≠ b1 ∧ rp ≠ bt) ∧ (n0 < ro ∧ ro < k ∧ n0 < rp ∧ rp < k) ∧
  (∀ q, q < n0 → Go.Pi.look Hk q = Go.Pi.look H q) ∧ (∀ p ∈ Hk, p.1 < k) ∧ n0 ≤ k ∧ st = ⟨k, Hk, Z⟩
def bgQ (m n : Nat) (a : Nat → Nat → Rat) (b c : Nat → Rat) (H : List (Nat × Ent)) (Z : List Nat) (n0 : Nat) : PV → St → Prop := fun v st => ∃ (L : Blk) (k : Nat) (Hk : List (Nat × Ent)), v = .ptr L.t 0 0 ∧ TabAt L Hk (begin0 m n a b c) ∧ (0 < m → 0 < n → Room L m k Z) ∧ (∀ q, q < n0 → Go.Pi.look Hk q = Go.Pi.look H q) ∧ (∀ p ∈ Hk, p.1 < k) ∧ n0 ≤ k ∧ (∀ q, L.In m q → n0 ≤ q ∧ q < k) ∧ st = ⟨k, Hk, Z⟩
structure Ord (L : Blk) (n x k : Nat) : Prop where
  t : L.t < k
  n1 : 0 < n → L.o ≠ L.p ∧ L.o ≠ L.t ∧ L.p ≠ L.t ∧ L.o < k ∧ L.p < k
  x1 : 0 < x → L.b ≠ L.c ∧ L.b ≠ L.g ∧ L.c ≠ L.g ∧ L.b ≠ L.t ∧ L.c ≠ L.t ∧ L.g ≠ L.t ∧ L.b < k ∧ L.c < k ∧ L.g < k
  xn : 0 < x → 0 < n → L.o ≠ L.b ∧ L.o ≠ L.c ∧ L.o ≠ L.g ∧ L.p ≠ L.b ∧ L.p ≠ L.c ∧ L.p ≠ L.g
  r : ∀ i, i < x → L.r i ≠ L.t ∧ L.r i ≠ L.b ∧ L.r i ≠ L.c ∧ L.r i ≠ L.g ∧ L.r i < k
  rn : ∀ i, i < x → 0 < n → L.r i ≠ L.o ∧ L.r i ≠ L.p
  inj : ∀ i j, i < x → j < x → L.r i = L.r j → i = j
  all : ∀ q, L.In x q → q < k
theorem Ord.apart {L : Blk} {n x k : Nat} (h : Ord L n x k) (hn : 0 < n) (hx : 0 < x) : L.Apart x := by
  obtain ⟨a1, a2, a3, a4, a5⟩ := h.n1 hn
  obtain ⟨b1, b2, b3, b4, b5, b6, _⟩ := h.x1 hx
  obtain ⟨c1, c2, c3, c4, c5, c6⟩ := h.xn hx hn
  exact ⟨Ne.symm b4, Ne.symm a2, Ne.symm b5, Ne.symm b6, Ne.symm a3, Ne.symm c1, b1, b2, Ne.symm c4, c2, c3, a1, b3, Ne.symm c5, Ne.symm c6, fun i hi => by
    obtain ⟨d1, d2, d3, d4, _⟩ := h.r i hi
    obtain ⟨e1, e2⟩ := h.rn i hi hn
    exact ⟨Ne.symm d1, Ne.symm d2, Ne.symm e1, Ne.symm d3, Ne.symm d4, Ne.symm e2⟩, h.inj⟩
theorem Ord.next {L : Blk} {n x k f1 f2 f3 f4 k' : Nat} (h : Ord L n x k) (h1 : k ≤ f1) (h2 : f1 < f2) (h3 : f2 < f3) (h4 : f3 < f4) (h5 : f4 < k') : Ord { L with b := f1, c := f2, g := f4, r := upd1 L.r x f3 } n (x + 1) k' := by
  have ht := h.t
  refine ⟨by show L.t < k'; omega, fun hn => ?_, fun _ => ?_, fun _ hn => ?_, fun i hi => ?_, fun i hi hn => ?_, fun i j hi hj e => ?_, fun q hq => ?_⟩
  · obtain ⟨a1, a2, a3, a4, a5⟩ := h.n1 hn
    exact ⟨a1, a2, a3, by show L.o < k'; omega, by show L.p < k'; omega⟩
  · show f1 ≠ f2 ∧ f1 ≠ f4 ∧ f2 ≠ f4 ∧ f1 ≠ L.t ∧ f2 ≠ L.t ∧ f4 ≠ L.t ∧ f1 < k' ∧ f2 < k' ∧ f4 < k'
    omega
  · obtain ⟨a1, a2, a3, a4, a5⟩ := h.n1 hn
    show L.o ≠ f1 ∧ L.o ≠ f2 ∧ L.o ≠ f4 ∧ L.p ≠ f1 ∧ L.p ≠ f2 ∧ L.p ≠ f4
    omega
  · show upd1 L.r x f3 i ≠ L.t ∧ upd1 L.r x f3 i ≠ f1 ∧ upd1 L.r x f3 i ≠ f2 ∧ upd1 L.r x f3 i ≠ f4 ∧ upd1 L.r x f3 i < k'
    unfold upd1
    by_cases hx : i = x
    · rw [if_pos hx]; omega
    · rw [if_neg hx]
      obtain ⟨d1, d2, d3, d4, d5⟩ := h.r i (by omega)
      omega
  · show upd1 L.r x f3 i ≠ L.o ∧ upd1 L.r x f3 i ≠ L.p
    unfold upd1
    obtain ⟨a1, a2, a3, a4, a5⟩ := h.n1 hn
    by_cases hx : i = x
    · rw [if_pos hx]; omega
    · rw [if_neg hx]; exact h.rn i (by omega) hn
  · have e : upd1 L.r x f3 i = upd1 L.r x f3 j := e
    unfold upd1 at e
    by_cases hx : i = x <;> by_cases hy : j = x
    · omega
    · rw [if_pos hx, if_neg hy] at e
      have := (h.r j (by omega)).2.2.2.2
      omega
    · rw [if_neg hx, if_pos hy] at e
      have := (h.r i (by omega)).2.2.2.2
      omega
    · rw [if_neg hx, if_neg hy] at e
      exact h.inj i j (by omega) (by omega) e
  · rcases hq with e | e | e | e | e | e | ⟨i, hi, e⟩
    · have := h.all q (.inl e); omega
    · have e : q = f1 := e; omega
    · have := h.all q (.inr (.inr (.inl e))); omega
    · have e : q = f2 := e; omega
    · have e : q = f4 := e; omega
    · have := h.all q (.inr (.inr (.inr (.inr (.inr (.inl e)))))); omega
    · have e : q = upd1 L.r x f3 i := e
      unfold upd1 at e
      by_cases hx : i = x
      · rw [if_pos hx] at e; omega
      · rw [if_neg hx] at e
        have := h.all q (.inr (.inr (.inr (.inr (.inr (.inr ⟨i, by omega, e⟩))))))
        omega
structure Low (L : Blk) (n x n0 : Nat) : Prop where
  t : n0 < L.t
  n1 : 0 < n → n0 < L.o ∧ n0 < L.p
  x1 : 0 < x → n0 < L.b ∧ n0 < L.c ∧ n0 < L.g
  r : ∀ i, i < x → n0 < L.r i
  all : ∀ q, L.In x q → n0 < q
theorem Low.next {L : Blk} {n x n0 f1 f2 f3 f4 : Nat} (h : Low L n x n0) (h1 : n0 < f1) (h2 : f1 < f2) (h3 : f2 < f3) (h4 : f3 < f4) : Low { L with b := f1, c := f2, g := f4, r := upd1 L.r x f3 } n (x + 1) n0 :=
  ⟨h.t, h.n1, fun _ => by show n0 < f1 ∧ n0 < f2 ∧ n0 < f4; omega, fun i hi => by
    show n0 < upd1 L.r x f3 i
    unfold upd1
    by_cases hx : i = x
    · rw [if_pos hx]; omega
    · rw [if_neg hx]; exact h.r i (by omega), fun q hq => by
    rcases hq with e | e | e | e | e | e | ⟨i, hi, e⟩
    · exact h.all q (.inl e)
    · have e : q = f1 := e; omega
    · exact h.all q (.inr (.inr (.inl e)))
    · have e : q = f2 := e; omega
    · have e : q = f4 := e; omega
    · exact h.all q (.inr (.inr (.inr (.inr (.inr (.inl e))))))
    · have e : q = upd1 L.r x f3 i := e
      unfold upd1 at e
      by_cases hx : i = x
      · rw [if_pos hx] at e; omega
      · rw [if_neg hx] at e
        exact h.all q (.inr (.inr (.inr (.inr (.inr (.inr ⟨i, by omega, e⟩))))))⟩
def bgI2 (vo vr vb : PV) (m n b1 bt : Nat) (a : Nat → Nat → Rat) (b c : Nat → Rat) (H : List (Nat × Ent)) (Z : List Nat) (n0 : Nat) : Nat → List PV → St → Prop := fun w vs st => ∃ (x k : Nat) (L : Blk) (Hk : List (Nat × Ent)), vs = [.ptr bt 0 0, .int .i64 (x : Int), .int .i64 (m : Int), vr, .ptr b1 0 0] ∧ x + w = m ∧ L.t = bt ∧
  Go.Pi.look Hk b1 = some ⟨3, [.agg [vo, vr, vb]]⟩ ∧ TabAt L Hk (begin0 x n a b c) ∧ Ord L n x k ∧ Low L n x n0 ∧
  (∀ q, q < n0 → Go.Pi.look Hk q = Go.Pi.look H q) ∧ (∀ p ∈ Hk, p.1 < k) ∧ n0 ≤ k ∧ st = ⟨k, Hk, Z⟩
theorem begin_gen {S : Specs} (hS1 : Go.Pi.look S 82 = some rnegR) (io ir ib : List PV) (m n : Nat) (a : Nat → Nat → Rat) (b c : Nat → Rat) (hP : ProgV io ir ib m n a b c) (hm : m < 1000) (hn : n < 1000) (n0 : Nat) (H : List (Nat × Ent)) (Z : List Nat) (vo : PV) (hvo : (vo = .slice io ∧ ∀ Hk : List (Nat × Ent), (∀ q, q < n0 → Go.Pi.look Hk q = Go.Pi.look H q) → True) ∨ ∃ r0, vo = .own r0 0 n ∧ ∀ Hk : List (Nat × Ent), (∀ q, q < n0 → Go.Pi.look Hk q = Go.Pi.look H q) → Go.Pi.look Hk r0 = some ⟨4, io⟩) (hF : ∀ p ∈ H, p.1 < n0) (hz0 : ∀ q, n0 ≤ q → memB Z q = false) :
    CallW prog (specEnv prog G S) G A1 50 [.agg [vo, sv m ir, sv m ib]] ⟨n0, H, Z⟩ (bgQ m n a b c H Z n0) := by
  refine callW_of ann50 func50 rfl (by kernel_rfl) ?_
  have iol := hP.obj.len
  have vok : vo.cells = [vo] ∧ vo.cellOk = true ∧ vo.isTop = false ∧ lenPV vo = some n := by
    rcases hvo with ⟨rfl, _⟩ | ⟨r0, rfl, _⟩
    · exact ⟨rfl, rfl, rfl, by simp [lenPV, iol]⟩
    · exact ⟨rfl, rfl, rfl, rfl⟩
  obtain ⟨vo1, vo2, vo3, vo4⟩ := vok
  have vsl : ∀ es : List PV, (sv m es).cells = [sv m es] ∧ (sv m es).cellOk = true ∧ (sv m es).isTop = false := fun es => by unfold sv; split <;> exact ⟨rfl, rfl, rfl⟩
  have v1 := (vsl ir).2.1
  have v2 := (vsl ib).2.1
  have nb : ¬ n0 + 1 + 1 + 1 + 1 + 1 + 1 = n0 := by omega
  simp [vo2, vo4, v1, v2, nb]
  refine loopK_of (bgI1 vo (sv m ir) (sv m ib) n n0 (n0 + 1 + 1 + 1 + 1 + 1 + 1) c H Z n0) rfl rfl ?step1 n _ _ ?init1
  case init1 =>
    refine ⟨0, n0 + 1 + 1 + 1 + 1 + 1 + 1 + 1 + 1 + 1 + 1 + 1 + 1, n0 + 1 + 1 + 1 + 1 + 1 + 1, n0 + 1 + 1 + 1 + 1 + 1 + 1, (n0 + 1 + 1 + 1 + 1 + 1 + 1, ⟨10, [.agg [.int .i64 n, .nil, .nil, .nil, .nil, .nil, .bool false, .nil, .bool false, .nil]]⟩) :: (n0, ⟨3, [.agg [vo, sv m ir, sv m ib]]⟩) :: H, rfl, by omega, ?_, ?_, fun h => absurd h (Nat.lt_irrefl 0), by omega, fun q hq => ?_, cons_lt (cons_lt hF (m := n0 + 6) (by omega) (by omega)) (by omega) (by omega), by omega, rfl⟩
    · simp [Go.Pi.look, beq_lit, nb]
    · simp [Go.Pi.look, beq_lit, slv]
    · rw [look_cons_ne (by omega), look_cons_ne (by omega)]
  case step1 =>
  obtain ⟨bt, hbt⟩ : ∃ bt, bt = n0 + 1 + 1 + 1 + 1 + 1 + 1 := ⟨_, rfl⟩
  rw [← hbt]
  rintro w vs st ⟨x, k, ro, rp, Hk, rfl, hxw, l1, lt, hx0, hr, hkeep, hlt, hk, rfl⟩
  have nbt : ¬ bt = n0 := by omega
  have ntb : ¬ n0 = bt := by omega
  have ltk : bt < k := look_lt hlt lt
  have l1k : n0 < k := look_lt hlt l1
  rcases Nat.eq_zero_or_pos w with h0 | h0
  · obtain rfl : x = n := by omega
    have sl := (vsl ir).2.1
    have slen : lenPV (sv m ir) = some m := sv_len fun k => (hP.rows k).1
    simp [l1, slen]
    refine loopK_of (bgI2 vo (sv m ir) (sv m ib) m x n0 bt a b c H Z n0) rfl rfl ?step2 m _ _ ?init2
    case init2 =>
      refine ⟨0, _, ⟨bt, bt, ro, bt, bt, rp, fun _ => bt⟩, Hk, rfl, by omega, rfl, l1, ⟨⟨false, .nil, false, .nil, lt, isRat_zero⟩, fun h => absurd h (Nat.lt_irrefl 0), fun h => ?_, fun h => absurd h (Nat.lt_irrefl 0), fun h => absurd h (Nat.lt_irrefl 0), fun i h => absurd h (Nat.not_lt_zero i), fun h => ?_⟩, ⟨?_, fun h => ?_, fun h => absurd h (Nat.lt_irrefl 0), fun h => absurd h (Nat.lt_irrefl 0), fun i h => absurd h (Nat.not_lt_zero i), fun i h => absurd h (Nat.not_lt_zero i), fun i j h => absurd h (Nat.not_lt_zero i), fun q hq => ?_⟩, ⟨?_, fun h => ?_, fun h => absurd h (Nat.lt_irrefl 0), fun i h => absurd h (Nat.not_lt_zero i), fun q hq => ?_⟩, hkeep, lt_mono hlt (by omega), by omega, rfl⟩
      · obtain ⟨es, k1, k2⟩ := (hx0 h).1; exact ⟨es, k1, k2⟩
      · obtain ⟨es, k1, k2⟩ := (hx0 h).2.1; exact ⟨es, k1, k2⟩
      · show bt < _; omega
      · obtain ⟨⟨_, k1, _⟩, ⟨_, k2, _⟩, k3, _, _, _, k4, _, k5⟩ := hx0 h
        have := look_lt hlt k1
        have := look_lt hlt k2
        exact ⟨k3, k4, k5, by show ro < _; omega, by show rp < _; omega⟩
      · rcases hq with e | e | e | e | e | e | ⟨i, hi, _⟩
        · have e : q = bt := e; omega
        · have e : q = bt := e; omega
        · have e : q = ro := e; omega
        · have e : q = bt := e; omega
        · have e : q = bt := e; omega
        · have e : q = rp := e; omega
        · exact absurd hi (Nat.not_lt_zero i)
      · show n0 < bt; omega
      · obtain ⟨_, _, _, k1, k2, k3, _, k4, _⟩ := hx0 h
        show n0 < ro ∧ n0 < rp
        omega
      · rcases hq with e | e | e | e | e | e | ⟨i, hi, _⟩
        · have e : q = bt := e; omega
        · have e : q = bt := e; omega
        · have e : q = ro := e; omega
        · have e : q = bt := e; omega
        · have e : q = bt := e; omega
        · have e : q = rp := e; omega
        · exact absurd hi (Nat.not_lt_zero i)
    case step2 =>
    obtain ⟨n, hn'⟩ : ∃ n, n = x := ⟨_, rfl⟩
    rw [← hn'] at hP iol hn ⊢
    clear hx0 hr lt hlt hkeep l1 ltk l1k hk hxw hvo vo4
    clear hn' x
    rintro w vs st ⟨x, k, L, Hk, rfl, hxw, rfl, l1, tab, ord, low, hkeep, hlt, hk, rfl⟩
    rcases Nat.eq_zero_or_pos w with h0 | h0
    · obtain rfl : x = m := by omega
      simp []
      have inT := low.t
      refine ⟨L, _, Hk, rfl, tab, fun h1 h2 => ⟨ord.apart h2 h1, fun q hq => ?_, fun q hq => hz0 q (by omega)⟩, hkeep, lt_mono hlt (by omega), by omega, fun q hq => ?_, rfl⟩
      · obtain ⟨a1, a2, a3, a4, a5⟩ := ord.n1 h2
        obtain ⟨c1, c2, c3, c4, c5, c6, c7, c8, c9⟩ := ord.x1 h1
        obtain ⟨l2, l3⟩ := low.n1 h2
        obtain ⟨l4, l5, l6⟩ := low.x1 h1
        have := ord.t
        have key : n0 ≤ q ∧ q < k := by
          rcases hq with e | e | e | e | e | e | ⟨i, hi, e⟩
          · omega
          · omega
          · omega
          · omega
          · omega
          · omega
          · have := (ord.r i hi).2.2.2.2
            have := low.r i hi
            omega
        exact ⟨by omega, hz0 q key.1⟩
      · have := low.all q hq
        have := ord.all q hq
        omega
    · have hx : x < m := by omega
      have mp : 0 < m := by omega
      have hxx : (x : Int) < m := by omega
      have wx : IntKind.i64.wrap ((x : Int) + 1) = ((x + 1 : Nat) : Int) := w_i64 (by omega)
      have sr : sv m ir = .slice ir := sv_pos mp
      have sb : sv m ib = .slice ib := sv_pos mp
      obtain ⟨irl, rws⟩ := hP.rows mp
      obtain ⟨er, e1, e2⟩ := rws x hx
      obtain ⟨b2, m2, cc2, u2, d2, g1, g2, g3, g4⟩ := (hP.bounds mp).get hx
      obtain ⟨x1, x2, x3, x4, x5⟩ := g3.cell
      obtain ⟨y1, y2, y3, y4, y5⟩ := g4.cell
      have g1' := getE g1
      have ibl := (hP.bounds mp).len
      have e1' := getE e1
      obtain ⟨vb, vm, vc, vu, lt, tv⟩ := tab.tt
      have wnx : IntKind.i64.wrap ((n : Int) + x) = ((n + x : Nat) : Int) := by rw [w_i64 (by omega)]; omega
      have lowt := low.t
      have zt := hz0 L.t (by omega)
      have ltk := ord.t
      rcases Nat.eq_zero_or_pos x with hx1 | hx1
      · subst hx1
        have lt' : Go.Pi.look Hk L.t = some ⟨10, [.agg [.int .i64 n, .nil, slv L.o n, .nil, .nil, slv L.p n, .bool vb, vm, .bool vc, vu]]⟩ := by rw [lt]; rfl
        have hb2 : NV [] 0 (begin0 0 n a b c).bas := ⟨rfl, fun k h => absurd h (Nat.not_lt_zero k)⟩
        have hc2 : RV [] 0 (begin0 0 n a b c).con := ⟨rfl, fun k h => absurd h (Nat.not_lt_zero k)⟩
        have wn0 : IntKind.i64.wrap (n : Int) = n := w_i64 (by omega)
        have w1 : IntKind.i64.wrap 1 = 1 := rfl
        rw [sr, sb] at l1
        rw [sr, sb]
        simp [hx, irl, e1', PV.cells]
        rw [run_draw]
        obtain ⟨f1, hf1⟩ : ∃ f, f = k + 1 + 1 + 1 + 1 + 1 + 1 + 1 + 1 + 1 + 1 + 1 + 1 + 1 + 1 + 1 + 1 + 1 + 1 := ⟨_, rfl⟩
        have nf1t : ¬ f1 = L.t := by omega
        have n1t' := nf1t
        rw [hf1] at n1t'
        simp [lt', wn0, zt, buildSliceOp, putParts, repeatP, uniform, PV.pureL, PV.pureB, appendOp, appended, elems, PV.cells, n1t']
        rw [← hf1]
        refine ⟨logOk_free (by simp only [List.map_cons, List.map_nil, tri, List.isEmpty_nil, List.isEmpty_cons]; decide +kernel), (?gen1 : ∀ (k1 : Nat) (H1 : List (Nat × Ent)), Go.Pi.look H1 L.t = some ⟨10, [.agg [.int .i64 n, .own f1 0 1, slv L.o n, .nil, .nil, slv L.p n, .bool vb, vm, .bool vc, vu]]⟩ → Go.Pi.look H1 f1 = some ⟨1, [.int .i64 (n : Int)]⟩ → (∀ q, q < k → q ≠ L.t → Go.Pi.look H1 q = Go.Pi.look Hk q) → (∀ p ∈ H1, p.1 < k1) → f1 < k1 → run prog (specEnv prog G S) G A1 _ _ ⟨k1, H1, Z⟩ _ _) _ _ ?a1 ?a2 ?a3 ?a4 ?a5⟩
        case a1 => rw [look_cons_ne nf1t]; exact look_upd_same lt'
        case a2 => exact look_one_cons _ _ _
        case a3 => intro q h1 h2; rw [look_cons_ne (by omega), look_upd_ne (Ne.symm h2)]
        case a4 => exact cons_lt (upd_lt hlt) (by omega) (by omega)
        case a5 => omega
        case gen1 =>
        clear n1t'
        intro k1 H1 lt1 lf1 keep1 hlt1 hk1
        have l11 : Go.Pi.look H1 n0 = some ⟨3, [.agg [vo, .slice ir, .slice ib]]⟩ := by rw [keep1 _ (by omega) (by omega)]; exact l1
        rw [run_draw]
        obtain ⟨f2, hf2⟩ : ∃ f, f = k1 + 1 + 1 + 1 + 1 + 1 + 1 + 1 + 1 + 1 + 1 + 1 := ⟨_, rfl⟩
        have nf2t : ¬ f2 = L.t := by omega
        have n2t' := nf2t
        rw [hf2] at n2t'
        simp [lt1, l11, g1', hx, ibl, x1, y1, zt, buildSliceOp, putParts, repeatP, uniform, PV.pureL, PV.pureB, x5, y5, appendOp, appended, elems, PV.cells, n2t']
        rw [← hf2]
        refine ⟨logOk_free (by simp only [List.map_cons, List.map_nil, tri, List.isEmpty_nil, List.isEmpty_cons]; decide +kernel), (?gen2 : ∀ (k2 : Nat) (H2 : List (Nat × Ent)), Go.Pi.look H2 L.t = some ⟨10, [.agg [.int .i64 n, .own f1 0 1, slv L.o n, .own f2 0 1, .nil, slv L.p n, .bool vb, vm, .bool vc, vu]]⟩ → Go.Pi.look H2 f1 = some ⟨1, [.int .i64 (n : Int)]⟩ → Go.Pi.look H2 f2 = some ⟨4, [.agg [.bool b2, m2, .bool cc2, u2]]⟩ → (∀ q, q < k → q ≠ L.t → Go.Pi.look H2 q = Go.Pi.look Hk q) → (∀ p ∈ H2, p.1 < k2) → f2 < k2 → run prog (specEnv prog G S) G A1 _ _ ⟨k2, H2, Z⟩ _ _) _ _ ?a1 ?a2 ?a3 ?a4 ?a5 ?a6⟩
        case a1 => rw [look_cons_ne nf2t]; exact look_upd_same lt1
        case a2 => rw [look_cons_ne (by omega), look_upd_ne (by omega)]; exact lf1
        case a3 => exact look_one_cons _ _ _
        case a4 => intro q h1 h2; rw [look_cons_ne (by omega), look_upd_ne (Ne.symm h2)]; exact keep1 q h1 h2
        case a5 => exact cons_lt (upd_lt hlt1) (by omega) (by omega)
        case a6 => omega
        case gen2 =>
        clear n2t' keep1 hlt1 lt1 lf1 l11
        intro k2 H2 lt2 lf1 lf2 keep2 hlt2 hk2
        have erl := e2.len
        have mk4 : (2 * n + 1000) * 64 ≤ 140737488355328 := by omega
        have ue : uniform 4 er = true := List.all_eq_true.2 fun v hv => by
          obtain ⟨q, hq, ee⟩ := List.getElem_of_mem hv
          obtain ⟨b9, m9, c9, u9, d9, k1, k2, k3, k4⟩ := e2.get (k := q) (by omega)
          rw [List.getElem?_eq_getElem hq, ee] at k1
          cases k1
          have c1 := k3.cell.1
          have c2 := k4.cell.1
          show (true && (true && (PV.cellOk m9 && (true && (PV.cellOk u9 && true))))) = true
          rw [c1, c2]; rfl
        rcases Nat.eq_zero_or_pos n with hn0 | hn0
        · have nn := hn0
          subst hn0
          obtain rfl := List.length_eq_zero_iff.1 erl
          have r5t : ¬ k2 + 1 + 1 + 1 + 1 + 1 = L.t := by omega
          have r7t : ¬ k2 + 1 + 1 + 1 + 1 + 1 + 1 + 1 = L.t := by omega
          have r8t : ¬ k2 + 1 + 1 + 1 + 1 + 1 + 1 + 1 + 1 = L.t := by omega
          have r9t : ¬ k2 + 1 + 1 + 1 + 1 + 1 + 1 + 1 + 1 + 1 = L.t := by omega
          have rz5 := hz0 (k2 + 1 + 1 + 1 + 1 + 1) (by omega)
          have rz7 := hz0 (k2 + 1 + 1 + 1 + 1 + 1 + 1 + 1) (by omega)
          have rz8 := hz0 (k2 + 1 + 1 + 1 + 1 + 1 + 1 + 1 + 1) (by omega)
          have dl5 : del H2 (k2 + 1 + 1 + 1 + 1 + 1) = H2 := del_out fun p hp => by have := hlt2 p hp; omega
          rw [run_draw]
          simp [lt2, zt, w1, rz5, buildSliceOp, putParts, repeatP, PV.pureL, PV.pureB, appendOp, appended, elems, uniform_nil, uniform_own1, r5t, r8t, r9t]
          have old : ∀ E1 E2 E3 E4 q, q < k → q ≠ L.t → Go.Pi.look ((k2 + 1 + 1 + 1 + 1 + 1 + 1 + 1 + 1 + 1, E1) :: (k2 + 1 + 1 + 1 + 1 + 1 + 1 + 1 + 1, E2) :: (k2 + 1 + 1 + 1 + 1 + 1, E3) :: Go.Pi.upd H2 L.t E4) q = Go.Pi.look Hk q := fun E1 E2 E3 E4 q h1 h2 => by
            rw [look_cons_ne (by omega), look_cons_ne (by omega), look_cons_ne (by omega), look_upd_ne (Ne.symm h2)]
            exact keep2 q h1 h2
          have mid' : ∀ E1 E2 E3 E4 q, q < k2 → q ≠ L.t → Go.Pi.look ((k2 + 1 + 1 + 1 + 1 + 1 + 1 + 1 + 1 + 1, E1) :: (k2 + 1 + 1 + 1 + 1 + 1 + 1 + 1 + 1, E2) :: (k2 + 1 + 1 + 1 + 1 + 1, E3) :: Go.Pi.upd H2 L.t E4) q = Go.Pi.look H2 q := fun E1 E2 E3 E4 q h1 h2 => by
            rw [look_cons_ne (by omega), look_cons_ne (by omega), look_cons_ne (by omega), look_upd_ne (Ne.symm h2)]
          refine ⟨?log, w - 1, by omega, 1, _, { L with b := f1, c := f2, g := k2 + 1 + 1 + 1 + 1 + 1 + 1 + 1 + 1 + 1, r := upd1 L.r 0 (k2 + 1 + 1 + 1 + 1 + 1) }, _, rfl, by omega, rfl, ?_, ⟨⟨vb, vm, vc, vu, ?_, tv⟩, fun _ => ⟨_, ?_, hb2.snoc rfl⟩, fun h => ?_, fun _ => ⟨_, ?_, hc2.snoc g2⟩, fun _ => ⟨_, look_one_cons _ _ _, ?_, fun i hi => ?_⟩, fun i hi => ?_, fun h => ?_⟩, ord.next (by omega) (by omega) (by omega) (by omega) (by omega), low.next (by omega) (by omega) (by omega) (by omega), fun q hq => ?_, ?_, by omega, rfl⟩
          case log =>
            have a1 : ¬ k2 + 1 = k2 := by omega
            have a2 : ¬ k2 + 1 + 1 = k2 := by omega
            have a3 : ¬ k2 + 1 + 1 + 1 = k2 := by omega
            have a4 : ¬ k2 + 1 + 1 + 1 + 1 = k2 := by omega
            refine logOk_code (fun q => if q = L.t then 0 else if q = k2 + 1 + 1 + 1 + 1 + 1 then 5  else if q = k2 + 1 + 1 + 1 + 1 + 1 + 1 + 1 + 1 then 8 else 9) ?_
            simp only [List.map_cons, List.map_nil, code]
            simp only [r5t, r8t, r9t, if_true, if_false, Nat.add_right_cancel_iff, a1, a3, a4]
            decide +kernel
          · rw [old _ _ _ _ _ (by omega) (by omega)]; exact l1
          · show Go.Pi.look _ L.t = some (Ent.mk 10 [.agg [.int .i64 ((0 : Nat) : Int), slv f1 1, slv L.o 0, slv f2 1, slv (k2 + 1 + 1 + 1 + 1 + 1 + 1 + 1 + 1 + 1) 1, slv L.p 0, .bool vb, vm, .bool vc, vu]])
            rw [slv_pos (r := f1) (by omega), slv_pos (r := f2) (by omega), slv_pos (r := k2 + 1 + 1 + 1 + 1 + 1 + 1 + 1 + 1 + 1) (by omega), look_cons_ne (by omega), look_cons_ne (by omega), look_cons_ne (by omega)]
            exact look_upd_same lt2
          · show Go.Pi.look _ f1 = _
            rw [mid' _ _ _ _ _ (by omega) (by omega)]; exact lf1
          · obtain ⟨es, j1, j2⟩ := tab.oo h
            obtain ⟨q1, q2, q3, q4, q5⟩ := ord.n1 h
            exact ⟨es, by show Go.Pi.look _ L.o = _; rw [old _ _ _ _ _ q4 q2]; exact j1, j2⟩
          · show Go.Pi.look _ f2 = _
            rw [mid' _ _ _ _ _ (by omega) (by omega)]; exact lf2
          · rfl
          · obtain rfl : i = 0 := by have hi' : i < 1 := hi; omega
            show some _ = some (PV.own (upd1 L.r 0 (k2 + 1 + 1 + 1 + 1 + 1) 0) 0 0)
            simp [upd1]
          · show ∃ es, Go.Pi.look _ (upd1 L.r 0 (k2 + 1 + 1 + 1 + 1 + 1) i) = some (Ent.mk 4 es) ∧ RV es 0 (a i)
            obtain rfl : i = 0 := by have hi' : i < 1 := hi; omega
            unfold upd1
            rw [if_pos rfl]
            exact ⟨[], by show Go.Pi.look ((k2 + 1 + 1 + 1 + 1 + 1 + 1 + 1 + 1 + 1, _) :: (k2 + 1 + 1 + 1 + 1 + 1 + 1 + 1 + 1, _) :: (k2 + 1 + 1 + 1 + 1 + 1, _) :: _) (k2 + 1 + 1 + 1 + 1 + 1) = _; rw [look_cons_ne (by omega), look_cons_ne (by omega)]; exact look_one_cons _ _ _, e2⟩
          · obtain ⟨es, j1, j2⟩ := tab.pp h
            obtain ⟨q1, q2, q3, q4, q5⟩ := ord.n1 h
            exact ⟨es, by show Go.Pi.look _ L.p = _; rw [old _ _ _ _ _ q5 q3]; exact j1, j2⟩
          · rw [old _ _ _ _ _ (by omega) (by omega)]; exact hkeep q hq
          · exact lt_mono (cons_lt (cons_lt (cons_lt (upd_lt hlt2) (m := k2 + 1 + 1 + 1 + 1 + 1 + 1 + 1 + 1) (by omega) (by omega)) (m := k2 + 1 + 1 + 1 + 1 + 1 + 1 + 1 + 1 + 1) (by omega) (by omega)) (m := k2 + 1 + 1 + 1 + 1 + 1 + 1 + 1 + 1 + 1 + 1) (by omega) (by show k2 + 1 + 1 + 1 + 1 + 1 + 1 + 1 + 1 + 1 < _; omega)) (by omega)
        · have nn : ¬ n = 0 := by omega
          have r5t : ¬ k2 + 1 + 1 + 1 + 1 + 1 = L.t := by omega
          have r7t : ¬ k2 + 1 + 1 + 1 + 1 + 1 + 1 + 1 = L.t := by omega
          have r8t : ¬ k2 + 1 + 1 + 1 + 1 + 1 + 1 + 1 + 1 = L.t := by omega
          have r9t : ¬ k2 + 1 + 1 + 1 + 1 + 1 + 1 + 1 + 1 + 1 = L.t := by omega
          have rz5 := hz0 (k2 + 1 + 1 + 1 + 1 + 1) (by omega)
          have rz7 := hz0 (k2 + 1 + 1 + 1 + 1 + 1 + 1 + 1) (by omega)
          have rz8 := hz0 (k2 + 1 + 1 + 1 + 1 + 1 + 1 + 1 + 1) (by omega)
          have dl5 : del H2 (k2 + 1 + 1 + 1 + 1 + 1) = H2 := del_out fun p hp => by have := hlt2 p hp; omega
          rw [run_draw]
          simp [dl5, lt2, zt, mk4, erl, nn, ue, w1, rz5, buildSliceOp, putParts, repeatP, PV.pureL, PV.pureB, appendOp, appended, elems, uniform_nil, uniform_own1, r7t, r8t, r9t, del]
          have old : ∀ E1 E2 E3 E4 q, q < k → q ≠ L.t → Go.Pi.look ((k2 + 1 + 1 + 1 + 1 + 1 + 1 + 1 + 1 + 1, E1) :: (k2 + 1 + 1 + 1 + 1 + 1 + 1 + 1 + 1, E2) :: (k2 + 1 + 1 + 1 + 1 + 1 + 1 + 1, E3) :: Go.Pi.upd H2 L.t E4) q = Go.Pi.look Hk q := fun E1 E2 E3 E4 q h1 h2 => by
            rw [look_cons_ne (by omega), look_cons_ne (by omega), look_cons_ne (by omega), look_upd_ne (Ne.symm h2)]
            exact keep2 q h1 h2
          have mid' : ∀ E1 E2 E3 E4 q, q < k2 → q ≠ L.t → Go.Pi.look ((k2 + 1 + 1 + 1 + 1 + 1 + 1 + 1 + 1 + 1, E1) :: (k2 + 1 + 1 + 1 + 1 + 1 + 1 + 1 + 1, E2) :: (k2 + 1 + 1 + 1 + 1 + 1 + 1 + 1, E3) :: Go.Pi.upd H2 L.t E4) q = Go.Pi.look H2 q := fun E1 E2 E3 E4 q h1 h2 => by
            rw [look_cons_ne (by omega), look_cons_ne (by omega), look_cons_ne (by omega), look_upd_ne (Ne.symm h2)]
          refine ⟨?log, w - 1, by omega, 1, _, { L with b := f1, c := f2, g := k2 + 1 + 1 + 1 + 1 + 1 + 1 + 1 + 1 + 1, r := upd1 L.r 0 (k2 + 1 + 1 + 1 + 1 + 1 + 1 + 1) }, _, rfl, by omega, rfl, ?_, ⟨⟨vb, vm, vc, vu, ?_, tv⟩, fun _ => ⟨_, ?_, hb2.snoc rfl⟩, fun h => ?_, fun _ => ⟨_, ?_, hc2.snoc g2⟩, fun _ => ⟨_, look_one_cons _ _ _, ?_, fun i hi => ?_⟩, fun i hi => ?_, fun h => ?_⟩, ord.next (by omega) (by omega) (by omega) (by omega) (by omega), low.next (by omega) (by omega) (by omega) (by omega), fun q hq => ?_, ?_, by omega, rfl⟩
          case log =>
            have a1 : ¬ k2 + 1 = k2 := by omega
            have a2 : ¬ k2 + 1 + 1 = k2 := by omega
            have a3 : ¬ k2 + 1 + 1 + 1 = k2 := by omega
            have a4 : ¬ k2 + 1 + 1 + 1 + 1 = k2 := by omega
            refine logOk_code (fun q => if q = L.t then 0 else if q = k2 + 1 + 1 + 1 + 1 + 1 then 5 else if q = k2 + 1 + 1 + 1 + 1 + 1 + 1 + 1 then 7 else if q = k2 + 1 + 1 + 1 + 1 + 1 + 1 + 1 + 1 then 8 else 9) ?_
            simp only [List.map_cons, List.map_nil, code]
            simp only [r5t, r7t, r8t, r9t, if_true, if_false, Nat.add_right_cancel_iff, a1, a2, a3, a4]
            decide +kernel
          · rw [old _ _ _ _ _ (by omega) (by omega)]; exact l1
          · show Go.Pi.look _ L.t = some (Ent.mk 10 [.agg [.int .i64 n, slv f1 1, slv L.o n, slv f2 1, slv (k2 + 1 + 1 + 1 + 1 + 1 + 1 + 1 + 1 + 1) 1, slv L.p n, .bool vb, vm, .bool vc, vu]])
            rw [slv_pos (r := f1) (by omega), slv_pos (r := f2) (by omega), slv_pos (r := k2 + 1 + 1 + 1 + 1 + 1 + 1 + 1 + 1 + 1) (by omega), look_cons_ne (by omega), look_cons_ne (by omega), look_cons_ne (by omega)]
            exact look_upd_same lt2
          · show Go.Pi.look _ f1 = _
            rw [mid' _ _ _ _ _ (by omega) (by omega)]; exact lf1
          · obtain ⟨es, j1, j2⟩ := tab.oo h
            obtain ⟨q1, q2, q3, q4, q5⟩ := ord.n1 hn0
            exact ⟨es, by show Go.Pi.look _ L.o = _; rw [old _ _ _ _ _ q4 q2]; exact j1, j2⟩
          · show Go.Pi.look _ f2 = _
            rw [mid' _ _ _ _ _ (by omega) (by omega)]; exact lf2
          · rfl
          · obtain rfl : i = 0 := by have hi' : i < 1 := hi; omega
            show some _ = some (PV.own (upd1 L.r 0 (k2 + 1 + 1 + 1 + 1 + 1 + 1 + 1) 0) 0 n)
            simp [upd1]
          · show ∃ es, Go.Pi.look _ (upd1 L.r 0 (k2 + 1 + 1 + 1 + 1 + 1 + 1 + 1) i) = some (Ent.mk 4 es) ∧ RV es n (a i)
            obtain rfl : i = 0 := by have hi' : i < 1 := hi; omega
            unfold upd1
            rw [if_pos rfl]
            exact ⟨er, by show Go.Pi.look ((k2 + 1 + 1 + 1 + 1 + 1 + 1 + 1 + 1 + 1, _) :: (k2 + 1 + 1 + 1 + 1 + 1 + 1 + 1 + 1, _) :: (k2 + 1 + 1 + 1 + 1 + 1 + 1 + 1, _) :: _) (k2 + 1 + 1 + 1 + 1 + 1 + 1 + 1) = _; rw [look_cons_ne (by omega), look_cons_ne (by omega)]; exact look_one_cons _ _ _, e2⟩
          · obtain ⟨es, j1, j2⟩ := tab.pp h
            obtain ⟨q1, q2, q3, q4, q5⟩ := ord.n1 hn0
            exact ⟨es, by show Go.Pi.look _ L.p = _; rw [old _ _ _ _ _ q5 q3]; exact j1, j2⟩
          · rw [old _ _ _ _ _ (by omega) (by omega)]; exact hkeep q hq
          · exact lt_mono (cons_lt (cons_lt (cons_lt (upd_lt hlt2) (m := k2 + 1 + 1 + 1 + 1 + 1 + 1 + 1 + 1) (by omega) (by omega)) (m := k2 + 1 + 1 + 1 + 1 + 1 + 1 + 1 + 1 + 1) (by omega) (by omega)) (m := k2 + 1 + 1 + 1 + 1 + 1 + 1 + 1 + 1 + 1 + 1) (by omega) (by show k2 + 1 + 1 + 1 + 1 + 1 + 1 + 1 + 1 + 1 < _; omega)) (by omega)
      · have lt' : Go.Pi.look Hk L.t = some ⟨10, [.agg [.int .i64 n, .own L.b 0 x, slv L.o n, .own L.c 0 x, .own L.g 0 x, slv L.p n, .bool vb, vm, .bool vc, vu]]⟩ := by
          rw [lt, show (begin0 x n a b c).m = x from rfl, slv_pos hx1, slv_pos hx1, slv_pos hx1]; rfl
        obtain ⟨eb, hb1, hb2⟩ := tab.bb hx1
        obtain ⟨ec, hc1, hc2⟩ := tab.cc hx1
        obtain ⟨eg, hg1, hg2, hg3⟩ := tab.gg hx1
        rw [sr, sb] at l1
        rw [sr, sb]
        obtain ⟨lb, lc, lg⟩ := low.x1 hx1
        have zb := hz0 L.b (by omega)
        have zc := hz0 L.c (by omega)
        have zg := hz0 L.g (by omega)
        have ebl : eb.length = x := hb2.len
        have nbt' : ¬ L.b = L.t := (ord.x1 hx1).2.2.2.1
        have ntb' : ¬ L.t = L.b := Ne.symm nbt'
        have mk2 : (2 * (x + 1) + 1000) * 8 ≤ 140737488355328 := by omega
        have sx : ¬ x + 1 ≤ x := by omega
        simp [hxx, hx, irl, e1', PV.cells]
        rw [run_draw]
        obtain ⟨f1, hf1⟩ : ∃ f, f = k + 1 + 1 + 1 + 1 + 1 + 1 + 1 + 1 + 1 + 1 + 1 + 1 + 1 + 1 + 1 + 1 + 1 + 1 := ⟨_, rfl⟩
        have nf1t : ¬ f1 = L.t := by omega
        have n1t' := nf1t
        rw [hf1] at n1t'
        have ldt : Go.Pi.look (del Hk L.b) L.t = Go.Pi.look Hk L.t := look_del_ne ntb'
        rw [lt'] at ldt
        simp [lt', hb1, ebl, wnx, zb, zt, mk2, sx, buildSliceOp, putParts, repeatP, uniform, PV.pureL, PV.pureB, appendOp, appended, elems, PV.cells, n1t', ldt]
        rw [← hf1]
        refine ⟨logOk_free (by simp only [List.map_cons, List.map_nil, tri, List.isEmpty_nil, List.isEmpty_cons]; decide +kernel), (?gen1 : ∀ (k1 : Nat) (H1 : List (Nat × Ent)), Go.Pi.look H1 L.t = some ⟨10, [.agg [.int .i64 n, .own f1 0 (x + 1), slv L.o n, .own L.c 0 x, .own L.g 0 x, slv L.p n, .bool vb, vm, .bool vc, vu]]⟩ → Go.Pi.look H1 f1 = some ⟨1, eb ++ [.int .i64 ((n + x : Nat) : Int)]⟩ → (∀ q, q < k → q ≠ L.t → q ≠ L.b → Go.Pi.look H1 q = Go.Pi.look Hk q) → (∀ p ∈ H1, p.1 < k1) → f1 < k1 → run prog (specEnv prog G S) G A1 _ _ ⟨k1, H1, Z⟩ _ _) _ _ ?a1 ?a2 ?a3 ?a4 ?a5⟩
        case a1 => rw [look_cons_ne nf1t]; exact look_upd_same ldt
        case a2 => exact look_one_cons _ _ _
        case a3 => intro q h1 h2 h3; rw [look_cons_ne (by omega), look_upd_ne (Ne.symm h2), look_del_ne h3]
        case a4 => exact cons_lt (upd_lt (del_lt hlt)) (by omega) (by omega)
        case a5 => omega
        case gen1 =>
        clear ldt n1t'
        intro k1 H1 lt1 lf1 keep1 hlt1 hk1
        have nct' : ¬ L.c = L.t := (ord.x1 hx1).2.2.2.2.1
        have ntc' : ¬ L.t = L.c := Ne.symm nct'
        have nbc : L.b ≠ L.c := (ord.x1 hx1).1
        have lck : L.c < k := (ord.x1 hx1).2.2.2.2.2.2.2.1
        have hc1' : Go.Pi.look H1 L.c = some ⟨4, ec⟩ := by rw [keep1 _ lck nct' (Ne.symm nbc)]; exact hc1
        have ecl : ec.length = x := hc2.len
        have mk3 : (2 * (x + 1) + 1000) * 64 ≤ 140737488355328 := by omega
        have l11 : Go.Pi.look H1 n0 = some ⟨3, [.agg [vo, .slice ir, .slice ib]]⟩ := by rw [keep1 _ (by omega) (by omega) (by omega)]; exact l1
        rw [run_draw]
        obtain ⟨f2, hf2⟩ : ∃ f, f = k1 + 1 + 1 + 1 + 1 + 1 + 1 + 1 + 1 + 1 + 1 + 1 := ⟨_, rfl⟩
        have nf2t : ¬ f2 = L.t := by omega
        have n2t' := nf2t
        rw [hf2] at n2t'
        have ldt1 : Go.Pi.look (del H1 L.c) L.t = Go.Pi.look H1 L.t := look_del_ne ntc'
        rw [lt1] at ldt1
        simp [lt1, hc1', ecl, l11, g1', hx, ibl, x1, y1, zc, zt, mk3, sx, buildSliceOp, putParts, repeatP, uniform, PV.pureL, PV.pureB, x5, y5, appendOp, appended, elems, PV.cells, n2t', ldt1]
        rw [← hf2]
        refine ⟨logOk_free (by simp only [List.map_cons, List.map_nil, tri, List.isEmpty_nil, List.isEmpty_cons]; decide +kernel), (?gen2 : ∀ (k2 : Nat) (H2 : List (Nat × Ent)), Go.Pi.look H2 L.t = some ⟨10, [.agg [.int .i64 n, .own f1 0 (x + 1), slv L.o n, .own f2 0 (x + 1), .own L.g 0 x, slv L.p n, .bool vb, vm, .bool vc, vu]]⟩ → Go.Pi.look H2 f1 = some ⟨1, eb ++ [.int .i64 ((n + x : Nat) : Int)]⟩ → Go.Pi.look H2 f2 = some ⟨4, ec ++ [.agg [.bool b2, m2, .bool cc2, u2]]⟩ → (∀ q, q < k → q ≠ L.t → q ≠ L.b → q ≠ L.c → Go.Pi.look H2 q = Go.Pi.look Hk q) → (∀ p ∈ H2, p.1 < k2) → f2 < k2 → run prog (specEnv prog G S) G A1 _ _ ⟨k2, H2, Z⟩ _ _) _ _ ?a1 ?a2 ?a3 ?a4 ?a5 ?a6⟩
        case a1 => rw [look_cons_ne nf2t]; exact look_upd_same ldt1
        case a2 => rw [look_cons_ne (by omega), look_upd_ne (by omega), look_del_ne (by omega)]; exact lf1
        case a3 => exact look_one_cons _ _ _
        case a4 => intro q h1 h2 h3 h4; rw [look_cons_ne (by omega), look_upd_ne (Ne.symm h2), look_del_ne h4]; exact keep1 q h1 h2 h3
        case a5 => exact cons_lt (upd_lt (del_lt hlt1)) (by omega) (by omega)
        case a6 => omega
        case gen2 =>
        clear ldt1 n2t' keep1 hlt1 lt1 lf1 hc1' l11
        intro k2 H2 lt2 lf1 lf2 keep2 hlt2 hk2
        have ngt' : ¬ L.g = L.t := (ord.x1 hx1).2.2.2.2.2.1
        have ntg' : ¬ L.t = L.g := Ne.symm ngt'
        have nbg : L.b ≠ L.g := (ord.x1 hx1).2.1
        have ncg : L.c ≠ L.g := (ord.x1 hx1).2.2.1
        have lgk : L.g < k := (ord.x1 hx1).2.2.2.2.2.2.2.2
        have hg1' : Go.Pi.look H2 L.g = some ⟨1, eg⟩ := by rw [keep2 _ lgk ngt' (Ne.symm nbg) (Ne.symm ncg)]; exact hg1
        have egl : eg.length = x := hg2
        have erl := e2.len
        have mk4 : (2 * n + 1000) * 64 ≤ 140737488355328 := by omega
        have mk5 : (2 * (x + 1) + 1000) * 24 ≤ 140737488355328 := by omega
        have ue : uniform 4 er = true := List.all_eq_true.2 fun v hv => by
          obtain ⟨q, hq, ee⟩ := List.getElem_of_mem hv
          obtain ⟨b9, m9, c9, u9, d9, k1, k2, k3, k4⟩ := e2.get (k := q) (by omega)
          rw [List.getElem?_eq_getElem hq, ee] at k1
          cases k1
          have c1 := k3.cell.1
          have c2 := k4.cell.1
          show (true && (true && (PV.cellOk m9 && (true && (PV.cellOk u9 && true))))) = true
          rw [c1, c2]; rfl
        have ug : uniform 1 eg = true := List.all_eq_true.2 fun v hv => by
          obtain ⟨q, hq, ee⟩ := List.getElem_of_mem hv
          have k1 := hg3 q (by show q < x; omega)
          rw [List.getElem?_eq_getElem hq, ee] at k1
          cases k1; rfl
        rcases Nat.eq_zero_or_pos n with hn0 | hn0
        · have nn := hn0
          subst hn0
          obtain rfl := List.length_eq_zero_iff.1 erl
          have r5t : ¬ k2 + 1 + 1 + 1 + 1 + 1 = L.t := by omega
          have r5g : ¬ k2 + 1 + 1 + 1 + 1 + 1 = L.g := by omega
          have r7t : ¬ k2 + 1 + 1 + 1 + 1 + 1 + 1 + 1 = L.t := by omega
          have r7g : ¬ k2 + 1 + 1 + 1 + 1 + 1 + 1 + 1 = L.g := by omega
          have r8t : ¬ k2 + 1 + 1 + 1 + 1 + 1 + 1 + 1 + 1 = L.t := by omega
          have r8g : ¬ k2 + 1 + 1 + 1 + 1 + 1 + 1 + 1 + 1 = L.g := by omega
          have r9t : ¬ k2 + 1 + 1 + 1 + 1 + 1 + 1 + 1 + 1 + 1 = L.t := by omega
          have r9g : ¬ k2 + 1 + 1 + 1 + 1 + 1 + 1 + 1 + 1 + 1 = L.g := by omega
          have rz5 := hz0 (k2 + 1 + 1 + 1 + 1 + 1) (by omega)
          have rz7 := hz0 (k2 + 1 + 1 + 1 + 1 + 1 + 1 + 1) (by omega)
          have rz8 := hz0 (k2 + 1 + 1 + 1 + 1 + 1 + 1 + 1 + 1) (by omega)
          have dl5 : del H2 (k2 + 1 + 1 + 1 + 1 + 1) = H2 := del_out fun p hp => by have := hlt2 p hp; omega
          have ldt2 : Go.Pi.look (del H2 L.g) L.t = Go.Pi.look H2 L.t := look_del_ne ntg'
          rw [lt2] at ldt2
          rw [run_draw]
          simp [ldt2, lt2, hg1', egl, zg, zt, mk5, sx, wx, rz5, buildSliceOp, putParts, repeatP, PV.pureL, PV.pureB, appendOp, appended, elems, uniform_nil, uniform_own1, r5t, r5g, r8t, r8g, r9t, del]
          have old : ∀ E1 E2 E3 E4 q, q < k → q ≠ L.t → q ≠ L.b → q ≠ L.c → q ≠ L.g → Go.Pi.look ((k2 + 1 + 1 + 1 + 1 + 1 + 1 + 1 + 1 + 1, E1) :: (k2 + 1 + 1 + 1 + 1 + 1 + 1 + 1 + 1, E2) :: (k2 + 1 + 1 + 1 + 1 + 1, E3) :: Go.Pi.upd (del H2 L.g) L.t E4) q = Go.Pi.look Hk q := fun E1 E2 E3 E4 q h1 h2 h3 h4 h5 => by
            rw [look_cons_ne (by omega), look_cons_ne (by omega), look_cons_ne (by omega), look_upd_ne (Ne.symm h2), look_del_ne h5]
            exact keep2 q h1 h2 h3 h4
          have mid' : ∀ E1 E2 E3 E4 q, q < k2 → q ≠ L.t → q ≠ L.g → Go.Pi.look ((k2 + 1 + 1 + 1 + 1 + 1 + 1 + 1 + 1 + 1, E1) :: (k2 + 1 + 1 + 1 + 1 + 1 + 1 + 1 + 1, E2) :: (k2 + 1 + 1 + 1 + 1 + 1, E3) :: Go.Pi.upd (del H2 L.g) L.t E4) q = Go.Pi.look H2 q := fun E1 E2 E3 E4 q h1 h2 h3 => by
            rw [look_cons_ne (by omega), look_cons_ne (by omega), look_cons_ne (by omega), look_upd_ne (Ne.symm h2), look_del_ne h3]
          refine ⟨?log, w - 1, by omega, x + 1, _, { L with b := f1, c := f2, g := k2 + 1 + 1 + 1 + 1 + 1 + 1 + 1 + 1 + 1, r := upd1 L.r x (k2 + 1 + 1 + 1 + 1 + 1) }, _, rfl, by omega, rfl, ?_, ⟨⟨vb, vm, vc, vu, ?_, tv⟩, fun _ => ⟨_, ?_, hb2.snoc rfl⟩, fun h => ?_, fun _ => ⟨_, ?_, hc2.snoc g2⟩, fun _ => ⟨_, look_one_cons _ _ _, ?_, fun i hi => ?_⟩, fun i hi => ?_, fun h => ?_⟩, ord.next (by omega) (by omega) (by omega) (by omega) (by omega), low.next (by omega) (by omega) (by omega) (by omega), fun q hq => ?_, ?_, by omega, rfl⟩
          case log =>
            have a1 : ¬ k2 + 1 = k2 := by omega
            have a2 : ¬ k2 + 1 + 1 = k2 := by omega
            have a3 : ¬ k2 + 1 + 1 + 1 = k2 := by omega
            have a4 : ¬ k2 + 1 + 1 + 1 + 1 = k2 := by omega
            refine logOk_code (fun q => if q = L.t then 0 else if q = L.g then 1 else if q = k2 + 1 + 1 + 1 + 1 + 1 then 5  else if q = k2 + 1 + 1 + 1 + 1 + 1 + 1 + 1 + 1 then 8 else 9) ?_
            simp only [List.map_cons, List.map_nil, code]
            simp only [r5t, r5g, r8t, r8g, r9t, r9g, ngt', if_true, if_false, Nat.add_right_cancel_iff, a1, a3, a4]
            decide +kernel
          · rw [old _ _ _ _ _ (by omega) (by omega) (by omega) (by omega) (by omega)]; exact l1
          · show Go.Pi.look _ L.t = some (Ent.mk 10 [.agg [.int .i64 ((0 : Nat) : Int), slv f1 (x + 1), slv L.o 0, slv f2 (x + 1), slv (k2 + 1 + 1 + 1 + 1 + 1 + 1 + 1 + 1 + 1) (x + 1), slv L.p 0, .bool vb, vm, .bool vc, vu]])
            rw [slv_pos (r := f1) (by omega), slv_pos (r := f2) (by omega), slv_pos (r := k2 + 1 + 1 + 1 + 1 + 1 + 1 + 1 + 1 + 1) (by omega), look_cons_ne (by omega), look_cons_ne (by omega), look_cons_ne (by omega)]
            exact look_upd_same ldt2
          · show Go.Pi.look _ f1 = _
            rw [mid' _ _ _ _ _ (by omega) (by omega) (by omega)]; exact lf1
          · obtain ⟨es, j1, j2⟩ := tab.oo h
            obtain ⟨q1, q2, q3, q4, q5⟩ := ord.n1 h
            obtain ⟨p1, p2, p3, p4, p5, p6⟩ := ord.xn hx1 h
            exact ⟨es, by show Go.Pi.look _ L.o = _; rw [old _ _ _ _ _ q4 q2 p1 p2 p3]; exact j1, j2⟩
          · show Go.Pi.look _ f2 = _
            rw [mid' _ _ _ _ _ (by omega) (by omega) (by omega)]; exact lf2
          · show (eg ++ [_]).length = x + 1
            simp [egl]
          · show (eg ++ [_])[i]? = some (.own (upd1 L.r x (k2 + 1 + 1 + 1 + 1 + 1) i) 0 0)
            have hi' : i < x + 1 := hi
            unfold upd1
            rcases Nat.lt_or_ge i x with h1 | h1
            · rw [List.getElem?_append_left (by omega), if_neg (by omega)]; exact hg3 i h1
            · obtain rfl : i = x := by omega
              rw [List.getElem?_append_right (by omega), egl, Nat.sub_self, if_pos rfl]; rfl
          · show ∃ es, Go.Pi.look _ (upd1 L.r x (k2 + 1 + 1 + 1 + 1 + 1) i) = some (Ent.mk 4 es) ∧ RV es 0 (a i)
            have hi' : i < x + 1 := hi
            unfold upd1
            rcases Nat.lt_or_ge i x with h1 | h1
            · rw [if_neg (by omega)]
              obtain ⟨es, j1, j2⟩ := tab.rr i h1
              obtain ⟨q1, q2, q3, q4, q5⟩ := ord.r i h1
              exact ⟨es, by rw [old _ _ _ _ _ q5 q1 q2 q3 q4]; exact j1, j2⟩
            · obtain rfl : i = x := by omega
              rw [if_pos rfl]
              exact ⟨[], by show Go.Pi.look ((k2 + 1 + 1 + 1 + 1 + 1 + 1 + 1 + 1 + 1, _) :: (k2 + 1 + 1 + 1 + 1 + 1 + 1 + 1 + 1, _) :: (k2 + 1 + 1 + 1 + 1 + 1, _) :: _) (k2 + 1 + 1 + 1 + 1 + 1) = _; rw [look_cons_ne (by omega), look_cons_ne (by omega)]; exact look_one_cons _ _ _, e2⟩
          · obtain ⟨es, j1, j2⟩ := tab.pp h
            obtain ⟨q1, q2, q3, q4, q5⟩ := ord.n1 h
            obtain ⟨p1, p2, p3, p4, p5, p6⟩ := ord.xn hx1 h
            exact ⟨es, by show Go.Pi.look _ L.p = _; rw [old _ _ _ _ _ q5 q3 p4 p5 p6]; exact j1, j2⟩
          · rw [old _ _ _ _ _ (by omega) (by omega) (by omega) (by omega) (by omega)]; exact hkeep q hq
          · exact lt_mono (cons_lt (cons_lt (cons_lt (upd_lt (del_lt hlt2)) (m := k2 + 1 + 1 + 1 + 1 + 1 + 1 + 1 + 1) (by omega) (by omega)) (m := k2 + 1 + 1 + 1 + 1 + 1 + 1 + 1 + 1 + 1) (by omega) (by omega)) (m := k2 + 1 + 1 + 1 + 1 + 1 + 1 + 1 + 1 + 1 + 1) (by omega) (by show k2 + 1 + 1 + 1 + 1 + 1 + 1 + 1 + 1 + 1 < _; omega)) (by omega)
        · have nn : ¬ n = 0 := by omega
          have r5t : ¬ k2 + 1 + 1 + 1 + 1 + 1 = L.t := by omega
          have r5g : ¬ k2 + 1 + 1 + 1 + 1 + 1 = L.g := by omega
          have r7t : ¬ k2 + 1 + 1 + 1 + 1 + 1 + 1 + 1 = L.t := by omega
          have r7g : ¬ k2 + 1 + 1 + 1 + 1 + 1 + 1 + 1 = L.g := by omega
          have r8t : ¬ k2 + 1 + 1 + 1 + 1 + 1 + 1 + 1 + 1 = L.t := by omega
          have r8g : ¬ k2 + 1 + 1 + 1 + 1 + 1 + 1 + 1 + 1 = L.g := by omega
          have r9t : ¬ k2 + 1 + 1 + 1 + 1 + 1 + 1 + 1 + 1 + 1 = L.t := by omega
          have r9g : ¬ k2 + 1 + 1 + 1 + 1 + 1 + 1 + 1 + 1 + 1 = L.g := by omega
          have rz5 := hz0 (k2 + 1 + 1 + 1 + 1 + 1) (by omega)
          have rz7 := hz0 (k2 + 1 + 1 + 1 + 1 + 1 + 1 + 1) (by omega)
          have rz8 := hz0 (k2 + 1 + 1 + 1 + 1 + 1 + 1 + 1 + 1) (by omega)
          have dl5 : del H2 (k2 + 1 + 1 + 1 + 1 + 1) = H2 := del_out fun p hp => by have := hlt2 p hp; omega
          have ldt2 : Go.Pi.look (del H2 L.g) L.t = Go.Pi.look H2 L.t := look_del_ne ntg'
          rw [lt2] at ldt2
          rw [run_draw]
          simp [dl5, ldt2, lt2, hg1', egl, zg, zt, mk4, mk5, sx, erl, nn, ue, wx, rz5, buildSliceOp, putParts, repeatP, PV.pureL, PV.pureB, appendOp, appended, elems, uniform_nil, uniform_own1, r7t, r7g, r8t, r8g, r9t, del]
          have old : ∀ E1 E2 E3 E4 q, q < k → q ≠ L.t → q ≠ L.b → q ≠ L.c → q ≠ L.g → Go.Pi.look ((k2 + 1 + 1 + 1 + 1 + 1 + 1 + 1 + 1 + 1, E1) :: (k2 + 1 + 1 + 1 + 1 + 1 + 1 + 1 + 1, E2) :: (k2 + 1 + 1 + 1 + 1 + 1 + 1 + 1, E3) :: Go.Pi.upd (del H2 L.g) L.t E4) q = Go.Pi.look Hk q := fun E1 E2 E3 E4 q h1 h2 h3 h4 h5 => by
            rw [look_cons_ne (by omega), look_cons_ne (by omega), look_cons_ne (by omega), look_upd_ne (Ne.symm h2), look_del_ne h5]
            exact keep2 q h1 h2 h3 h4
          have mid' : ∀ E1 E2 E3 E4 q, q < k2 → q ≠ L.t → q ≠ L.g → Go.Pi.look ((k2 + 1 + 1 + 1 + 1 + 1 + 1 + 1 + 1 + 1, E1) :: (k2 + 1 + 1 + 1 + 1 + 1 + 1 + 1 + 1, E2) :: (k2 + 1 + 1 + 1 + 1 + 1 + 1 + 1, E3) :: Go.Pi.upd (del H2 L.g) L.t E4) q = Go.Pi.look H2 q := fun E1 E2 E3 E4 q h1 h2 h3 => by
            rw [look_cons_ne (by omega), look_cons_ne (by omega), look_cons_ne (by omega), look_upd_ne (Ne.symm h2), look_del_ne h3]
          refine ⟨?log, w - 1, by omega, x + 1, _, { L with b := f1, c := f2, g := k2 + 1 + 1 + 1 + 1 + 1 + 1 + 1 + 1 + 1, r := upd1 L.r x (k2 + 1 + 1 + 1 + 1 + 1 + 1 + 1) }, _, rfl, by omega, rfl, ?_, ⟨⟨vb, vm, vc, vu, ?_, tv⟩, fun _ => ⟨_, ?_, hb2.snoc rfl⟩, fun h => ?_, fun _ => ⟨_, ?_, hc2.snoc g2⟩, fun _ => ⟨_, look_one_cons _ _ _, ?_, fun i hi => ?_⟩, fun i hi => ?_, fun h => ?_⟩, ord.next (by omega) (by omega) (by omega) (by omega) (by omega), low.next (by omega) (by omega) (by omega) (by omega), fun q hq => ?_, ?_, by omega, rfl⟩
          case log =>
            have a1 : ¬ k2 + 1 = k2 := by omega
            have a2 : ¬ k2 + 1 + 1 = k2 := by omega
            have a3 : ¬ k2 + 1 + 1 + 1 = k2 := by omega
            have a4 : ¬ k2 + 1 + 1 + 1 + 1 = k2 := by omega
            refine logOk_code (fun q => if q = L.t then 0 else if q = L.g then 1 else if q = k2 + 1 + 1 + 1 + 1 + 1 then 5 else if q = k2 + 1 + 1 + 1 + 1 + 1 + 1 + 1 then 7 else if q = k2 + 1 + 1 + 1 + 1 + 1 + 1 + 1 + 1 then 8 else 9) ?_
            simp only [List.map_cons, List.map_nil, code]
            simp only [r5t, r5g, r7t, r7g, r8t, r8g, r9t, r9g, ngt', if_true, if_false, Nat.add_right_cancel_iff, a1, a2, a3, a4]
            decide +kernel
          · rw [old _ _ _ _ _ (by omega) (by omega) (by omega) (by omega) (by omega)]; exact l1
          · show Go.Pi.look _ L.t = some (Ent.mk 10 [.agg [.int .i64 n, slv f1 (x + 1), slv L.o n, slv f2 (x + 1), slv (k2 + 1 + 1 + 1 + 1 + 1 + 1 + 1 + 1 + 1) (x + 1), slv L.p n, .bool vb, vm, .bool vc, vu]])
            rw [slv_pos (r := f1) (by omega), slv_pos (r := f2) (by omega), slv_pos (r := k2 + 1 + 1 + 1 + 1 + 1 + 1 + 1 + 1 + 1) (by omega), look_cons_ne (by omega), look_cons_ne (by omega), look_cons_ne (by omega)]
            exact look_upd_same ldt2
          · show Go.Pi.look _ f1 = _
            rw [mid' _ _ _ _ _ (by omega) (by omega) (by omega)]; exact lf1
          · obtain ⟨es, j1, j2⟩ := tab.oo h
            obtain ⟨q1, q2, q3, q4, q5⟩ := ord.n1 hn0
            obtain ⟨p1, p2, p3, p4, p5, p6⟩ := ord.xn hx1 hn0
            exact ⟨es, by show Go.Pi.look _ L.o = _; rw [old _ _ _ _ _ q4 q2 p1 p2 p3]; exact j1, j2⟩
          · show Go.Pi.look _ f2 = _
            rw [mid' _ _ _ _ _ (by omega) (by omega) (by omega)]; exact lf2
          · show (eg ++ [_]).length = x + 1
            simp [egl]
          · show (eg ++ [_])[i]? = some (.own (upd1 L.r x (k2 + 1 + 1 + 1 + 1 + 1 + 1 + 1) i) 0 n)
            have hi' : i < x + 1 := hi
            unfold upd1
            rcases Nat.lt_or_ge i x with h1 | h1
            · rw [List.getElem?_append_left (by omega), if_neg (by omega)]; exact hg3 i h1
            · obtain rfl : i = x := by omega
              rw [List.getElem?_append_right (by omega), egl, Nat.sub_self, if_pos rfl]; rfl
          · show ∃ es, Go.Pi.look _ (upd1 L.r x (k2 + 1 + 1 + 1 + 1 + 1 + 1 + 1) i) = some (Ent.mk 4 es) ∧ RV es n (a i)
            have hi' : i < x + 1 := hi
            unfold upd1
            rcases Nat.lt_or_ge i x with h1 | h1
            · rw [if_neg (by omega)]
              obtain ⟨es, j1, j2⟩ := tab.rr i h1
              obtain ⟨q1, q2, q3, q4, q5⟩ := ord.r i h1
              exact ⟨es, by rw [old _ _ _ _ _ q5 q1 q2 q3 q4]; exact j1, j2⟩
            · obtain rfl : i = x := by omega
              rw [if_pos rfl]
              exact ⟨er, by show Go.Pi.look ((k2 + 1 + 1 + 1 + 1 + 1 + 1 + 1 + 1 + 1, _) :: (k2 + 1 + 1 + 1 + 1 + 1 + 1 + 1 + 1, _) :: (k2 + 1 + 1 + 1 + 1 + 1 + 1 + 1, _) :: _) (k2 + 1 + 1 + 1 + 1 + 1 + 1 + 1) = _; rw [look_cons_ne (by omega), look_cons_ne (by omega)]; exact look_one_cons _ _ _, e2⟩
          · obtain ⟨es, j1, j2⟩ := tab.pp h
            obtain ⟨q1, q2, q3, q4, q5⟩ := ord.n1 hn0
            obtain ⟨p1, p2, p3, p4, p5, p6⟩ := ord.xn hx1 hn0
            exact ⟨es, by show Go.Pi.look _ L.p = _; rw [old _ _ _ _ _ q5 q3 p4 p5 p6]; exact j1, j2⟩
          · rw [old _ _ _ _ _ (by omega) (by omega) (by omega) (by omega) (by omega)]; exact hkeep q hq
          · exact lt_mono (cons_lt (cons_lt (cons_lt (upd_lt (del_lt hlt2)) (m := k2 + 1 + 1 + 1 + 1 + 1 + 1 + 1 + 1) (by omega) (by omega)) (m := k2 + 1 + 1 + 1 + 1 + 1 + 1 + 1 + 1 + 1) (by omega) (by omega)) (m := k2 + 1 + 1 + 1 + 1 + 1 + 1 + 1 + 1 + 1 + 1) (by omega) (by show k2 + 1 + 1 + 1 + 1 + 1 + 1 + 1 + 1 + 1 < _; omega)) (by omega)
  · have hx : x < n := by omega
    have hxx : (x : Int) < n := by omega
    have wx : IntKind.i64.wrap ((x : Int) + 1) = ((x + 1 : Nat) : Int) := w_i64 (by omega)
    obtain ⟨b2, m2, cc2, u2, d2, g1, g2, g3, g4⟩ := hP.obj.get hx
    obtain ⟨x1, x2, x3, x4, x5⟩ := g3.cell
    obtain ⟨y1, y2, y3, y4, y5⟩ := g4.cell
    have g1' := getE g1
    rcases hvo with ⟨rfl, l0⟩ | ⟨r0, rfl, l0⟩
    all_goals
      have l0 := l0 Hk hkeep
      obtain ⟨b5, hb5⟩ : ∃ b, b = k + 1 + 1 + 1 + 1 := ⟨_, rfl⟩
      have z5 := hz0 b5 (by omega)
      have n5t : ¬ b5 = bt := by omega
      have n5b : ¬ b5 = n0 := by omega
      have zt := hz0 bt (by omega)
      have z5' := z5
      have n5t' := n5t
      have n5b' := n5b
      rw [hb5] at z5' n5t' n5b'
      obtain ⟨f1, hf1⟩ : ∃ f, f = k + 1 + 1 + 1 + 1 + 1 + 1 + 1 + 1 + 1 + 1 + 1 + 1 + 1 + 1 := ⟨_, rfl⟩
      have nf1t : ¬ f1 = bt := by omega
      have nf1b : ¬ f1 = n0 := by omega
      have n1t' := nf1t
      have n1b' := nf1b
      rw [hf1] at n1t' n1b'
      rcases Nat.eq_zero_or_pos x with hx1 | hx1
      · subst hx1
        rw [show slv ro 0 = .nil from rfl, show slv rp 0 = .nil from rfl] at lt
        simp [g1', hx, iol, l0, x1, y1, lt, z5', n5t', n1t', zt, buildSliceOp, putParts, repeatP, uniform, PV.pureL, PV.pureB, appendOp, appended, elems]
        rw [← hf1, ← hb5]
        have lus : ∀ E, Go.Pi.look (Go.Pi.upd Hk bt E) bt = some E := fun E => look_upd_same lt
        have n51 : ¬ b5 = f1 := by omega
        have n15 : ¬ f1 = b5 := by omega
        simp [run_draw, nf1t, n5t, n15, lus]
        refine dcallK_pure hS1 (by simp [PV.pureL, g2.pure]) (rneg_ok _ _ g2) fun r hr => ?_
        simp only [rnegR, ratv_eq g2] at hr
        have hr' := hr
        obtain ⟨b3, m3, cc3, u3, d3, rfl, p1, p2, _⟩ := hr'.cases
        obtain ⟨p11, p12, p13, p14, p15⟩ := p1.cell
        obtain ⟨p21, p22, p23, p24, p25⟩ := p2.cell
        obtain ⟨f2, hf2⟩ : ∃ f, f = f1 + 1 + 1 + 1 + 1 + 1 + 1 + 1 + 1 + 1 + 1 + 1 + 1 := ⟨_, rfl⟩
        have nf2t : ¬ f2 = bt := by omega
        have nf2b : ¬ f2 = n0 := by omega
        have n2t' := nf2t
        rw [hf2] at n2t'
        simp [n2t', show IntKind.i64.wrap 1 = 1 from rfl, x2, y2, p11, p21, nf1t, n5t, zt, lus, upd_upd, buildSliceOp, putParts, repeatP, uniform, PV.pureL, PV.pureB, p15, p25, appendOp, appended, elems, PV.cells]
        rw [← hf2]
        refine ⟨logOk_free (by simp only [List.map_cons, List.map_nil, tri, List.isEmpty_nil, List.isEmpty_cons]; decide +kernel), w - 1, by omega, 1, _, f1, f2, _, rfl, by omega, ?_, ?_, fun _ => ⟨⟨[.int .i64 0], ?_, ?_⟩, ⟨[.agg [.bool b3, m3, .bool cc3, u3]], ?_, ?_⟩, by omega, by omega, by omega, by omega, by omega, by omega, by omega⟩, by omega, fun q hq => ?_, ?_, by omega, rfl⟩
        · rw [look_cons_ne (by omega), look_cons_ne (by omega), look_cons_ne (by omega), look_upd_ne nbt]; exact l1
        · rw [look_cons_ne (by omega), look_cons_ne (by omega), look_cons_ne (by omega), lus]; rfl
        · rw [look_cons_ne (by omega)]; exact look_one_cons _ _ _
        · exact ⟨rfl, fun j hj => by obtain rfl : j = 0 := by omega
                                     rfl⟩
        · exact look_one_cons _ _ _
        · exact ⟨rfl, fun j hj => by obtain rfl : j = 0 := by omega
                                     exact ⟨_, rfl, hr⟩⟩
        · rw [look_cons_ne (by omega), look_cons_ne (by omega), look_cons_ne (by omega), look_upd_ne (by omega)]; exact hkeep q hq
        · exact cons_lt (cons_lt (cons_lt (upd_lt hlt) (m := b5 + 1) (by omega) (by omega)) (m := f1 + 1) (by omega) (by omega)) (by omega) (by omega)
      · obtain ⟨⟨eo, ho1, ho2⟩, ⟨ep, hp1, hp2⟩, nop, lo, lp, nob, not', npb, npt⟩ := hx0 hx1
        rw [slv_pos hx1, slv_pos hx1] at lt
        have zo := hz0 ro lo
        have zp := hz0 rp lp
        have lok : ro < k := look_lt hlt ho1
        have lpk : rp < k := look_lt hlt hp1
        have eol := ho2.len
        have epl := hp2.len
        have n5o : ¬ b5 = ro := by omega
        have n5p : ¬ b5 = rp := by omega
        have n5o' := n5o
        rw [hb5] at n5o'
        have mk2 : (2 * (x + 1) + 1000) * 8 ≤ 140737488355328 := by omega
        have mk3 : (2 * (x + 1) + 1000) * 64 ≤ 140737488355328 := by omega
        have sx : ¬ x + 1 ≤ x := by omega
        have ldt : Go.Pi.look (del Hk ro) bt = some ⟨10, [.agg [.int .i64 n, .nil, .own ro 0 x, .nil, .nil, .own rp 0 x, .bool false, .nil, .bool false, .nil]]⟩ := by rw [look_del_ne (Ne.symm not')]; exact lt
        have uo : (eo.all fun e => decide (e.cells.length = 1) && e.cells.all PV.cellOk) = true := List.all_eq_true.2 fun e he => by
          obtain ⟨q, hq, ee⟩ := List.getElem_of_mem he
          have := ho2.at_ q (by omega)
          rw [List.getElem?_eq_getElem hq, ee] at this
          cases this; rfl
        simp [hxx, g1', hx, iol, l0, x1, y1, lt, ho1, eol, z5', n5t', n1t', n5o', zt, zo, mk2, sx, ldt, buildSliceOp, putParts, repeatP, uniform, PV.pureL, PV.pureB, appendOp, appended, elems, del]
        rw [← hf1, ← hb5]
        have lus : ∀ E, Go.Pi.look (Go.Pi.upd (del Hk ro) bt E) bt = some E := fun E => look_upd_same ldt
        have lup : ∀ E, Go.Pi.look (Go.Pi.upd (del Hk ro) bt E) rp = some ⟨4, ep⟩ := fun E => by rw [look_upd_ne (Ne.symm npt), look_del_ne (Ne.symm nop)]; exact hp1
        have ldp : ∀ E, Go.Pi.look (del (Go.Pi.upd (del Hk ro) bt E) rp) bt = some E := fun E => by rw [look_del_ne (Ne.symm npt)]; exact lus E
        have n51 : ¬ b5 = f1 := by omega
        have n15 : ¬ f1 = b5 := by omega
        have n1p : ¬ f1 = rp := by omega
        simp [run_draw, nf1t, n5t, n15, lus]
        refine dcallK_pure hS1 (by simp [PV.pureL, g2.pure]) (rneg_ok _ _ g2) fun r hr => ?_
        simp only [rnegR, ratv_eq g2] at hr
        have hr' := hr
        obtain ⟨b3, m3, cc3, u3, d3, rfl, p1, p2, _⟩ := hr'.cases
        obtain ⟨p11, p12, p13, p14, p15⟩ := p1.cell
        obtain ⟨p21, p22, p23, p24, p25⟩ := p2.cell
        obtain ⟨f2, hf2⟩ : ∃ f, f = f1 + 1 + 1 + 1 + 1 + 1 + 1 + 1 + 1 + 1 + 1 + 1 + 1 := ⟨_, rfl⟩
        have nf2t : ¬ f2 = bt := by omega
        have nf2b : ¬ f2 = n0 := by omega
        have n2t' := nf2t
        rw [hf2] at n2t'
        simp [n2t', wx, x2, y2, p11, p21, nf1t, n5t, n5p, n1p, zt, zp, lup, ldp, epl, mk3, sx, buildSliceOp, putParts, repeatP, uniform, PV.pureL, PV.pureB, p15, p25, appendOp, appended, elems, PV.cells, del]
        rw [← hf2]
        have lup2 : ∀ E E2, Go.Pi.look (Go.Pi.upd (del (Go.Pi.upd (del Hk ro) bt E) rp) bt E2) bt = some E2 := fun E E2 => look_upd_same (ldp E)
        have lot : ∀ E E2 q, q ≠ bt → q ≠ ro → q ≠ rp → Go.Pi.look (Go.Pi.upd (del (Go.Pi.upd (del Hk ro) bt E) rp) bt E2) q = Go.Pi.look Hk q := fun E E2 q h1 h2 h3 => by rw [look_upd_ne (Ne.symm h1), look_del_ne h3, look_upd_ne (Ne.symm h1), look_del_ne h2]
        refine ⟨logOk_free (by simp only [List.map_cons, List.map_nil, tri, List.isEmpty_nil, List.isEmpty_cons]; decide +kernel), w - 1, by omega, x + 1, _, f1, f2, _, rfl, by omega, ?_, ?_, fun _ => ⟨⟨eo ++ [.int .i64 x], ?_, ?_⟩, ⟨ep ++ [.agg [.bool b3, m3, .bool cc3, u3]], ?_, ?_⟩, by omega, by omega, by omega, by omega, by omega, by omega, by omega⟩, by omega, fun q hq => ?_, ?_, by omega, rfl⟩
        · rw [look_cons_ne (by omega), look_cons_ne (by omega), look_cons_ne (by omega), lot _ _ _ (by omega) (by omega) (by omega)]; exact l1
        · rw [look_cons_ne (by omega), look_cons_ne (by omega), look_cons_ne (by omega), lup2, slv_pos (by omega), slv_pos (by omega)]
        · rw [look_cons_ne (by omega)]; exact look_one_cons _ _ _
        · exact ho2.snoc rfl
        · exact look_one_cons _ _ _
        · exact hp2.snoc hr
        · rw [look_cons_ne (by omega), look_cons_ne (by omega), look_cons_ne (by omega), lot _ _ _ (by omega) (by omega) (by omega)]; exact hkeep q hq
        · exact cons_lt (cons_lt (cons_lt (upd_lt (del_lt (upd_lt (del_lt hlt)))) (m := b5 + 1) (by omega) (by omega)) (m := f1 + 1) (by omega) (by omega)) (by omega) (by omega)
theorem begin_pure {S : Specs} (hS1 : Go.Pi.look S 82 = some rnegR) (io ir ib : List PV) (m n : Nat) (a : Nat → Nat → Rat) (b c : Nat → Rat) (hP : ProgV io ir ib m n a b c) (hm : m < 1000) (hn : n < 1000) (n0 : Nat) (H : List (Nat × Ent)) (Z : List Nat) (hF : ∀ p ∈ H, p.1 < n0) (hz0 : ∀ q, n0 ≤ q → memB Z q = false) :
    CallW prog (specEnv prog G S) G A1 50 [.agg [.slice io, sv m ir, sv m ib]] ⟨n0, H, Z⟩ (bgQ m n a b c H Z n0) := begin_gen hS1 io ir ib m n a b c hP hm hn n0 H Z _ (.inl ⟨rfl, fun _ _ => trivial⟩) hF hz0
theorem begin_own {S : Specs} (hS1 : Go.Pi.look S 82 = some rnegR) (io ir ib : List PV) (m n : Nat) (a : Nat → Nat → Rat) (b c : Nat → Rat) (hP : ProgV io ir ib m n a b c) (hm : m < 1000) (hn : n < 1000) (n0 : Nat) (H : List (Nat × Ent)) (Z : List Nat) (r0 : Nat) (hr0 : r0 < n0) (hH0 : Go.Pi.look H r0 = some ⟨4, io⟩) (hF : ∀ p ∈ H, p.1 < n0) (hz0 : ∀ q, n0 ≤ q → memB Z q = false) :
    CallW prog (specEnv prog G S) G A1 50 [.agg [.own r0 0 n, sv m ir, sv m ib]] ⟨n0, H, Z⟩ (bgQ m n a b c H Z n0) := begin_gen hS1 io ir ib m n a b c hP hm hn n0 H Z _ (.inr ⟨r0, rfl, fun _ h => by rw [h _ hr0]; exact hH0⟩) hF hz0
end Go.Proofs.Tryz
