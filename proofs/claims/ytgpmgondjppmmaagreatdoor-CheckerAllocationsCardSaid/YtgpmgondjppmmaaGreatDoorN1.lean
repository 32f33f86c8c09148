/- Numbers: digits, division, decimal texts. Plain arithmetic. No condition. -/
import Derived.Test.YtgpmgondjppmmaaGreatDoorA5
import Derived.Lib.ItoaNum
import Derived.Lib.Repeat
import Derived.Lib.Join
set_option linter.unnecessarySimpa false
set_option linter.unusedSectionVars false
set_option linter.unusedSimpArgs false
set_option linter.unusedVariables false
namespace Go.Num
def val:List Int → Int
 | [] => 0
 | d :: ds => d + 4294967296 * val ds
def Dig (ds:List Int):Prop := ∀ d ∈ ds,0 ≤ d ∧ d < 4294967296
def pw:Nat → Int
 | 0 => 1
 | n+1 => 4294967296 * pw n
theorem pw_pos:∀ n,0 < pw n
 | 0 => by decide
 | n+1 => by have := pw_pos n; simp only [pw]; omega
theorem pw_add:∀ m n,pw (m + n) = pw m * pw n
 | 0,n => by simp [pw]
 | m+1,n => by rw [Nat.add_right_comm,pw,pw,pw_add m n,Int.mul_assoc]
theorem val_append:∀ a b:List Int,val (a ++ b) = val a + pw a.length * val b
 | [],b => by simp [val,pw]
 | d :: a,b => by
  simp only [List.cons_append,val,List.length_cons,pw,val_append a b]
  rw [Int.mul_add,Int.mul_assoc,Int.add_assoc]
theorem Dig.cons {d:Int} {ds:List Int} (h:Dig (d :: ds)):(0 ≤ d ∧ d < 4294967296) ∧ Dig ds := ⟨h d (by simp),fun x hx => h x (by simp [hx])⟩
theorem Dig.append {a b:List Int} (h:Dig (a ++ b)):Dig a ∧ Dig b := ⟨fun x hx => h x (by simp [hx]),fun x hx => h x (by simp [hx])⟩
theorem Dig.join {a b:List Int} (ha:Dig a) (hb:Dig b):Dig (a ++ b) := fun x hx => by
 rcases List.mem_append.1 hx with h | h
 ·exact ha x h
 ·exact hb x h
theorem Dig.one {d:Int} (h:0 ≤ d ∧ d < 4294967296):Dig [d] := fun x hx => by simp at hx; subst hx; exact h
theorem val_nonneg:∀ {ds:List Int},Dig ds → 0 ≤ val ds
 | [],_ => by simp [val]
 | d :: ds,h => by
  have := val_nonneg h.cons.2
  have := h.cons.1
  simp only [val]; omega
theorem val_lt:∀ {ds:List Int},Dig ds → val ds < pw ds.length
 | [],_ => by simp [val,pw]
 | d :: ds,h => by
  have := val_lt h.cons.2
  have := h.cons.1
  simp only [val,List.length_cons,pw]; omega
theorem val_inj:∀ {a b:List Int},Dig a → Dig b → a.length = b.length → val a = val b → a = b
 | [],[],_,_,_,_ => rfl
 | [],_ :: _,_,_,h,_ => by simp at h
 | _ :: _,[],_,_,h,_ => by simp at h
 | d :: a,e :: b,ha,hb,hl,h => by
  have h1 := ha.cons.1
  have h2 := hb.cons.1
  simp only [val] at h
  have h3:val a = val b := by omega
  have h4:d = e := by omega
  rw [h4,val_inj ha.cons.2 hb.cons.2 (by simpa using hl) h3]
theorem val_zeros:∀ n,val (List.replicate n 0) = 0
 | 0 => rfl
 | n+1 => by simp [List.replicate_succ,val,val_zeros n]
def Top (ds:List Int):Prop := ∀ l d,ds = l ++ [d] → d ≠ 0
theorem val_top {l:List Int} {d:Int} (h:Dig (l ++ [d])) (hd:d ≠ 0):pw l.length ≤ val (l ++ [d]) := by
 have h1 := val_nonneg h.append.1
 have h2 := h.append.2 d (by simp)
 have h3 := pw_pos l.length
 rw [val_append]
 simp only [val,Int.mul_zero,Int.add_zero]
 have:pw l.length * 1 ≤ pw l.length * d := Int.mul_le_mul_of_nonneg_left (by omega) (by omega)
 omega
theorem val_short {a b:List Int} (ha:Dig a) (hb:Dig b) (ht:Top b) (h:a.length < b.length):val a < val b := by
 rcases List.eq_nil_or_concat b with rfl | ⟨l,d,rfl⟩
 ·simp at h
 ·rw [List.concat_eq_append] at *
  have h1 := val_top hb (ht l d rfl)
  have h2 := val_lt ha
  have h3:pw a.length ≤ pw l.length := by
   have:l.length = a.length + (l.length - a.length) := by simp at h; omega
   rw [this,pw_add]
   have h4 := pw_pos a.length
   have h5 := pw_pos (l.length - a.length)
   have:pw a.length * 1 ≤ pw a.length * pw (l.length - a.length) := Int.mul_le_mul_of_nonneg_left (by omega) (by omega)
   omega
  omega
theorem trial_low {U V p v1 v2 vlow hi u2 ulow q rest:Int} (hp:0 < p) (hV:V = (v1 * 4294967296 + v2) * p + vlow) (hvl:0 ≤ vlow) (hU:U = (hi * 4294967296 + u2) * p + ulow) (hul:ulow < p)
  (hq:hi = q * v1 + rest) (h:q * v2 > rest * 4294967296 + u2) (hq0:0 ≤ q):U < q * V := by
 have e1:q * V = (q * v1 * 4294967296 + q * v2) * p + q * vlow := by rw [hV]; simp only [Int.mul_add,Int.add_mul,Int.mul_assoc]
 have e2:U = (q * v1 * 4294967296 + (rest * 4294967296 + u2)) * p + ulow := by rw [hU,hq]; simp only [Int.add_mul]; omega
 have h1:0 ≤ q * vlow := Int.mul_nonneg hq0 hvl
 have h2:(q * v1 * 4294967296 + (rest * 4294967296 + u2)+1) * p ≤ (q * v1 * 4294967296 + q * v2) * p := Int.mul_le_mul_of_nonneg_right (by omega) (by omega)
 rw [Int.add_mul,Int.one_mul] at h2
 omega
theorem trial_high {U V p v1 v2 vlow hi u2 ulow q rest:Int} (hp:0 < p) (hV:V = (v1 * 4294967296 + v2) * p + vlow) (hvl:vlow < p) (hv:0 ≤ v2) (hv1:1 ≤ v1) (hU:U = (hi * 4294967296 + u2) * p + ulow) (hul:0 ≤ ulow)
  (hq:hi = q * v1 + rest) (h:q * v2 ≤ rest * 4294967296 + u2) (hq1:1 ≤ q) (hqB:q ≤ 4294967296):(q - 1) * V ≤ U := by
 have h1:V+1 ≤ (v1 * 4294967296 + v2+1) * p := by rw [hV,Int.add_mul (v1 * 4294967296 + v2) 1 p,Int.one_mul]; omega
 have h2:(q - 1) * V ≤ (q - 1) * ((v1 * 4294967296 + v2+1) * p) := Int.mul_le_mul_of_nonneg_left (by omega) (by omega)
 have h3:(q - 1) * (v1 * 4294967296 + v2+1) ≤ q * v1 * 4294967296 + q * v2 := by
  have e:(q - 1) * (v1 * 4294967296 + v2+1) = q * v1 * 4294967296 + q * v2 + q - (v1 * 4294967296 + v2+1) := by
   simp only [Int.sub_mul,Int.mul_add,Int.one_mul,Int.mul_one,Int.mul_assoc]
   omega
  rw [e]; omega
 have h4:(q - 1) * ((v1 * 4294967296 + v2+1) * p) ≤ (q * v1 * 4294967296 + q * v2) * p := by
  rw [← Int.mul_assoc]
  exact Int.mul_le_mul_of_nonneg_right h3 (by omega)
 have h5:(q * v1 * 4294967296 + q * v2) * p ≤ (hi * 4294967296 + u2) * p := by
  refine Int.mul_le_mul_of_nonneg_right ?_ (by omega)
  rw [hq,Int.add_mul]; omega
 omega
structure Norm (ds:List Int):Prop where
 dig:Dig ds
 top:Top ds
theorem norm_nil:Norm [] := ⟨fun _ h => (by simp at h),fun l d h => by simp at h⟩
theorem norm_inj {a b:List Int} (ha:Norm a) (hb:Norm b) (h:val a = val b):a = b := by
 rcases Nat.lt_trichotomy a.length b.length with hl | hl | hl
 ·have := val_short ha.dig hb.dig hb.top hl; omega
 ·exact val_inj ha.dig hb.dig hl h
 ·have := val_short hb.dig ha.dig ha.top hl; omega
theorem norm_zero {a:List Int} (ha:Norm a):val a = 0 ↔ a = [] := by
 constructor
 ·intro h; exact norm_inj ha norm_nil h
 ·intro h; rw [h]; rfl
theorem norm_pos {a:List Int} (ha:Norm a) (h:a ≠ []):0 < val a := by
 have := val_nonneg ha.dig
 have:val a ≠ 0 := fun e => h ((norm_zero ha).1 e)
 omega
theorem pw_mono {m n:Nat} (h:m ≤ n):pw m ≤ pw n := by
 obtain ⟨k,rfl⟩ := Nat.exists_eq_add_of_le h
 rw [pw_add]
 have h1 := pw_pos m
 have h2 := pw_pos k
 have:pw m * 1 ≤ pw m * pw k := Int.mul_le_mul_of_nonneg_left (by omega) (by omega)
 omega
theorem norm_len {a:List Int} (ha:Norm a) {k:Nat} (h:val a < pw k):a.length ≤ k := by
 rcases List.eq_nil_or_concat a with rfl | ⟨l,d,rfl⟩
 ·simp
 ·rw [List.concat_eq_append] at *
  have h1 := val_top ha.dig (ha.top l d rfl)
  rcases Nat.lt_or_ge l.length k with h2 | h2
  ·simp; omega
  ·have := pw_mono h2; omega
def trimL (ds:List Int):List Int := (ds.reverse.dropWhile (· == 0)).reverse
theorem trimL_zero (ds:List Int):trimL (ds ++ [0]) = trimL ds := by simp [trimL]
theorem trimL_pos (ds:List Int) {d:Int} (h:d ≠ 0):trimL (ds ++ [d]) = ds ++ [d] := by simp [trimL,h]
theorem trimL_facts:∀ (k:Nat) (ds:List Int),ds.length = k → (∃ zs,ds = trimL ds ++ zs ∧ (∀ z ∈ zs,z = 0)) ∧ Top (trimL ds)
 | 0,ds,h => by
  obtain rfl:ds = [] := List.length_eq_zero_iff.1 h
  exact ⟨⟨[],by simp [trimL],by simp⟩,fun l d h => by simp [trimL] at h⟩
 | k+1,ds,h => by
  rcases List.eq_nil_or_concat ds with rfl | ⟨l,d,rfl⟩
  ·simp at h
  ·rw [List.concat_eq_append] at *
   by_cases hd:d = 0
   ·subst hd
    obtain ⟨⟨zs,h1,h2⟩,h3⟩ := trimL_facts k l (by simpa using h)
    rw [trimL_zero]
    refine ⟨⟨zs ++ [0],?_,fun z hz => ?_⟩,h3⟩
    ·rw [← List.append_assoc,← h1]
    ·rcases List.mem_append.1 hz with h | h
     ·exact h2 z h
     ·simpa using h
   ·rw [trimL_pos _ hd]
    refine ⟨⟨[],by simp,by simp⟩,fun l' d' e => ?_⟩
    have := List.append_inj' e rfl
    simp only [List.cons.injEq,and_true] at this
    rw [← this.2]; exact hd
theorem val_zero_of:∀ {zs:List Int},(∀ z ∈ zs,z = 0) → val zs = 0
 | [],_ => rfl
 | z :: zs,h => by
  simp only [val]
  rw [h z (by simp),val_zero_of fun x hx => h x (by simp [hx])]
  rfl
theorem val_trim (ds:List Int):val (trimL ds) = val ds := by
 obtain ⟨⟨zs,h1,h2⟩,_⟩ := trimL_facts _ ds rfl
 conv => rhs; rw [h1]
 rw [val_append,val_zero_of h2]
 omega
theorem norm_trim {ds:List Int} (h:Dig ds):Norm (trimL ds) := by
 obtain ⟨⟨zs,h1,_⟩,h3⟩ := trimL_facts _ ds rfl
 refine ⟨fun d hd => h d ?_,h3⟩
 rw [h1]
 exact List.mem_append_left _ hd
theorem trim_len (ds:List Int):(trimL ds).length ≤ ds.length := by
 obtain ⟨⟨zs,h1,_⟩,_⟩ := trimL_facts _ ds rfl
 conv => rhs; rw [h1]
 simp
theorem Dig.get {ds:List Int} (h:Dig ds) {i:Nat} (hi:i < ds.length):0 ≤ ds[i] ∧ ds[i] < 4294967296 := h _ (List.getElem_mem hi)
theorem Dig.take {ds:List Int} (h:Dig ds) (k:Nat):Dig (ds.take k) := fun d hd => h d (List.mem_of_mem_take hd)
theorem Dig.drop {ds:List Int} (h:Dig ds) (k:Nat):Dig (ds.drop k) := fun d hd => h d (List.mem_of_mem_drop hd)
theorem val_take_succ {ds:List Int} {i:Nat} (hi:i < ds.length):val (ds.take (i+1)) = val (ds.take i) + pw i * ds[i] := by
 rw [List.take_succ_eq_append_getElem hi,val_append,List.length_take,Nat.min_eq_left (Nat.le_of_lt hi)]
 simp [val]
theorem val_snoc (ds:List Int) (d:Int):val (ds ++ [d]) = val ds + pw ds.length * d := by
 rw [val_append]; simp [val]
theorem val_split {ds:List Int} {i:Nat} (hi:i < ds.length):val ds = val (ds.take i) + pw i * (ds[i] + 4294967296 * val (ds.drop (i+1))) := by
 have h1:ds = ds.take i ++ ds[i] :: ds.drop (i+1) := by rw [← List.drop_eq_getElem_cons hi,List.take_append_drop]
 have h2:(ds.take i).length = i := by rw [List.length_take]; omega
 have h3:val ds = val (ds.take i ++ ds[i] :: ds.drop (i+1)) := by rw [← h1]
 rw [h3,val_append,h2]
 simp only [val]
theorem submul_step {w u v:List Int} {i:Nat} {q c b:Int} (hu:i < u.length) (hv:i < v.length) (hw:w.length = i)
  (h:val w = val (u.take i) - q * val (v.take i) + pw i * (b + c)) (c1 lo hi t d b1:Int) (h1:c1 = c + q * v[i]) (h2:c1 = lo + 4294967296 * hi) (h3:t = u[i] - b - lo) (h4:t = d - 4294967296 * b1) :
  val (w ++ [d]) = val (u.take (i+1)) - q * val (v.take (i+1)) + pw (i+1) * (b1 + hi) := by
 rw [val_snoc,hw,val_take_succ hu,val_take_succ hv,show pw (i+1) = 4294967296 * pw i from rfl]
 grind
theorem addback_step {w u v:List Int} {i:Nat} {c:Int} (hu:i < u.length) (hv:i < v.length) (hw:w.length = i)
  (h:val w = val (u.take i) + val (v.take i) - pw i * c) (c1 d hi:Int) (h1:c1 = c + (u[i] + v[i])) (h2:c1 = d + 4294967296 * hi) :
  val (w ++ [d]) = val (u.take (i+1)) + val (v.take (i+1)) - pw (i+1) * hi := by
 rw [val_snoc,hw,val_take_succ hu,val_take_succ hv,show pw (i+1) = 4294967296 * pw i from rfl]
 grind
theorem top_digits {u v:List Int} {n:Nat} (hu:u.length = n + 3) (hv:v.length = n + 2) (du:Dig u) (dv:Dig v) :
  ∃ ul vl,val u = ((u[n + 2] * 4294967296 + u[n+1]) * 4294967296 + u[n]) * pw n + ul ∧ 0 ≤ ul ∧ ul < pw n ∧ val v = (v[n+1] * 4294967296 + v[n]) * pw n + vl ∧ 0 ≤ vl ∧ vl < pw n := by
 have lu:(u.take n).length = n := by rw [List.length_take]; omega
 have lv:(v.take n).length = n := by rw [List.length_take]; omega
 refine ⟨val (u.take n),val (v.take n),?_,val_nonneg (du.take n),?_,?_,val_nonneg (dv.take n),?_⟩
 ·have e:u = u.take (n + 3) := by rw [List.take_of_length_le (by omega)]
  have e2:val u = val (u.take (n + 2+1)) := by rw [← e]
  rw [e2,val_take_succ (by omega),val_take_succ (by omega),val_take_succ (by omega)]
  simp only [pw]
  grind
 ·have := val_lt (du.take n); rw [lu] at this; exact this
 ·have e:v = v.take (n + 2) := by rw [List.take_of_length_le (by omega)]
  have e2:val v = val (v.take (n+1+1)) := by rw [← e]
  rw [e2,val_take_succ (by omega),val_take_succ (by omega)]
  simp only [pw]
  grind
 ·have := val_lt (dv.take n); rw [lv] at this; exact this
theorem trial_end {U V p v1 v2 vl hi u2 ul q rest:Int} (hp:0 < p) (hV:V = (v1 * 4294967296 + v2) * p + vl) (hvl0:0 ≤ vl) (hvl:vl < p) (hv2:0 ≤ v2) (hv2':v2 < 4294967296) (hv1:1 ≤ v1) (hU:U = (hi * 4294967296 + u2) * p + ul) (hul:0 ≤ ul) (hu2:0 ≤ u2)
  (hhi:0 ≤ hi) (hq:hi = q * v1 + rest) (hq0:0 ≤ q) (hqB:q ≤ 4294967296) (h:4294967296 ≤ rest ∨ q * v2 ≤ rest * 4294967296 + u2):(q - 1) * V ≤ U := by
 rcases Int.lt_or_le q 1 with h0 | h1
 ·have hz:q = 0 := by omega
  subst hz
  have h2:0 ≤ V := by
   rw [hV]
   have:0 ≤ (v1 * 4294967296 + v2) * p := Int.mul_nonneg (by omega) (by omega)
   omega
  have h3:0 ≤ U := by
   rw [hU]
   have:0 ≤ (hi * 4294967296 + u2) * p := Int.mul_nonneg (by omega) (by omega)
   omega
  omega
 ·refine trial_high hp hV hvl hv2 hv1 hU hul hq ?_ h1 hqB
  rcases h with h | h
  ·have:q * v2 ≤ 4294967296 * 4294967296 := Int.mul_le_mul hqB (by omega) hv2 (by omega)
   have:4294967296 * 4294967296 ≤ rest * 4294967296 := Int.mul_le_mul_of_nonneg_right h (by omega)
   omega
  ·exact h
theorem val_set {ds:List Int} {i:Nat} (h:i < ds.length) (d:Int):val (ds.set i d) = val ds + pw i * (d - ds[i]) := by
 have h2:i < (ds.set i d).length := by simpa using h
 rw [val_split h,val_split h2]
 have e1:(ds.set i d).take i = ds.take i := by rw [List.take_set_of_le (Nat.le_refl i)]
 have e2:(ds.set i d).drop (i+1) = ds.drop (i+1) := by rw [List.drop_set_of_lt (by omega)]
 rw [e1,e2,List.getElem_set_self]
 grind
theorem Dig.set {ds:List Int} (h:Dig ds) {i:Nat} {d:Int} (hd:0 ≤ d ∧ d < 4294967296):Dig (ds.set i d) := fun x hx => by
 rcases List.mem_or_eq_of_mem_set hx with h1 | h1
 ·exact h x h1
 ·rw [h1]; exact hd
theorem val_lt_of {a b:List Int} (ha:Dig a) (hb:Dig b) {i:Nat} (hi:i < a.length) (hj:i < b.length) (hd:a.drop (i+1) = b.drop (i+1)) (h:a[i] < b[i]):val a < val b := by
 have h1 := val_lt (ha.take i)
 have h2 := val_nonneg (hb.take i)
 have l1:(a.take i).length = i := by rw [List.length_take]; omega
 rw [l1] at h1
 rw [val_split hi,val_split hj,hd]
 have h3:pw i * (a[i]+1 + 4294967296 * val (b.drop (i+1))) ≤ pw i * (b[i] + 4294967296 * val (b.drop (i+1))) := Int.mul_le_mul_of_nonneg_left (by omega) (by have := pw_pos i; omega)
 have h4:pw i * (a[i]+1 + 4294967296 * val (b.drop (i+1))) = pw i * (a[i] + 4294967296 * val (b.drop (i+1))) + pw i := by grind
 omega
def isDigit (b:UInt8):Prop := 48 ≤ b.toNat ∧ b.toNat ≤ 57
def decVal (l:List UInt8):Nat := l.foldl (fun a b => a * 10 + (b.toNat - 48)) 0
theorem foldl_dec (l:List UInt8):∀ a:Nat,l.foldl (fun a b => a * 10 + (b.toNat - 48)) a = a * 10 ^ l.length + decVal l := by
 induction l with
 | nil => intro a; simp [decVal]
 | cons b l ih =>
  intro a
  simp only [List.foldl_cons,List.length_cons,decVal]
  rw [ih,ih (0 * 10 + (b.toNat - 48)),Nat.pow_succ]
  grind
theorem decVal_append (a b:List UInt8):decVal (a ++ b) = decVal a * 10 ^ b.length + decVal b := by
 rw [decVal,List.foldl_append,← decVal,foldl_dec]
theorem decVal_cons (b:UInt8) (l:List UInt8):decVal (b :: l) = (b.toNat - 48) * 10 ^ l.length + decVal l := by
 have := decVal_append [b] l
 simpa [decVal] using this
theorem decVal_lt:∀ {l:List UInt8},(∀ b ∈ l,isDigit b) → decVal l < 10 ^ l.length
 | [],_ => by simp [decVal]
 | b :: l,h => by
  have ih := decVal_lt fun x hx => h x (List.mem_cons_of_mem b hx)
  have hb := h b (by simp)
  unfold isDigit at hb
  rw [decVal_cons,List.length_cons,Nat.pow_succ]
  have:(b.toNat - 48) * 10 ^ l.length ≤ 9 * 10 ^ l.length := Nat.mul_le_mul_right _ (by omega)
  omega
structure DecText (l:List UInt8) (n:Nat):Prop where
 digits:∀ b ∈ l,isDigit b
 ne:l ≠ []
 first:∀ b r,l = b :: r → b.toNat = 48 → r = []
 val:decVal l = n
theorem DecText.zero:DecText [48] 0 := ⟨fun b hb => by simp at hb; subst hb; exact ⟨by decide,by decide⟩,by simp,fun b r h _ => by simp at h; exact h.2,by decide⟩
theorem DecText.lt {l:List UInt8} {n:Nat} (h:DecText l n):n < 10 ^ l.length := by
 rw [← h.val]; exact decVal_lt h.digits
theorem decVal_ge {b:UInt8} {l:List UInt8} (h1:isDigit b) (h:b.toNat ≠ 48):10 ^ l.length ≤ decVal (b :: l) := by
 unfold isDigit at h1
 rw [decVal_cons]
 have:1 * 10 ^ l.length ≤ (b.toNat - 48) * 10 ^ l.length := Nat.mul_le_mul_right _ (by omega)
 omega
theorem DecText.len {l:List UInt8} {n:Nat} (h:DecText l n) {k:Nat} (hn:n < 10 ^ k) (hk:1 ≤ k):l.length ≤ k := by
 match l,h with
 | [],h => exact absurd rfl h.ne
 | b :: r,h =>
  by_cases hb:b.toNat = 48
  ·rw [h.first b r rfl hb]; simpa using hk
  ·have := decVal_ge (l := r) (h.digits b (by simp)) hb
   rw [h.val] at this
   have h2:10 ^ r.length < 10 ^ k := by omega
   have := (Nat.pow_lt_pow_iff_right (a := 10) (by decide)).1 h2
   simp; omega
def zeros (n:Nat):List UInt8 := List.replicate n 48
theorem decVal_zeros (n:Nat) (l:List UInt8):decVal (zeros n ++ l) = decVal l := by
 induction n with
 | zero => simp [zeros]
 | succ n ih =>
  have:zeros (n+1) ++ l = 48 :: (zeros n ++ l) := by simp [zeros,List.replicate_succ]
  rw [this,decVal_cons,ih]
  have:(48:UInt8).toNat - 48 = 0 := by decide
  rw [this]; omega
theorem zeros_digits {n:Nat} {b:UInt8} (h:b ∈ zeros n):isDigit b := by
 rw [List.eq_of_mem_replicate h]; exact ⟨by decide,by decide⟩
end Go.Num
namespace Go.Lin
theorem mk_num (n:Int) (d:Nat) (hd:d ≠ 0):(mkRat n d).num = n / (Nat.gcd n.natAbs d:Nat) := by
 rw [Rat.num_mkRat,if_neg hd,Nat.gcd_comm]
theorem mk_den (n:Int) (d:Nat) (hd:d ≠ 0):(mkRat n d).den = d / Nat.gcd n.natAbs d := by
 rw [Rat.den_mkRat,if_neg hd,Nat.gcd_comm]
theorem add_mk (a b:Rat):a + b = mkRat (a.num * b.den + b.num * a.den) (a.den * b.den) := Rat.add_def' a b
theorem mul_mk (a b:Rat):a * b = mkRat (a.num * b.num) (a.den * b.den) := Rat.mul_def' a b
theorem mk_one (n:Int):(mkRat n 1).num = n ∧ (mkRat n 1).den = 1 := by
 rw [Rat.num_mkRat,Rat.den_mkRat]; simp
theorem whole_add (a b:Rat) (ha:a.den = 1) (hb:b.den = 1):(a + b).num = a.num + b.num ∧ (a + b).den = 1 := by
 rw [add_mk,ha,hb]
 simpa using mk_one _
theorem whole_mul (a b:Rat) (ha:a.den = 1) (hb:b.den = 1):(a * b).num = a.num * b.num ∧ (a * b).den = 1 := by
 rw [mul_mk,ha,hb]
 simpa using mk_one _
theorem cmp_lt (a b:Rat):a < b ↔ a.num * b.den < b.num * a.den := Rat.lt_iff a b
theorem cmp_eq (a b:Rat):a = b ↔ a.num * b.den = b.num * a.den := Rat.eq_iff_mul_eq_mul
end Go.Lin
namespace Go.Pi
open Go.Num
def U (ds:List Int):List PV := ds.map (.int .u32)
theorem U_len (ds:List Int):(U ds).length = ds.length := by simp [U]
theorem U_get {ds:List Int} {i:Nat} (h:i < ds.length):(U ds)[i]? = some (.int .u32 ds[i]) := by simp [U,h]
theorem U_pure (ds:List Int):PV.pureL (U ds) = true := by
 induction ds with
 | nil => rfl
 | cons d ds ih => simpa [U,PV.pureL,PV.pureB] using ih
theorem U_set (ds:List Int) (i:Nat) (d:Int):(U ds).set i (.int .u32 d) = U (ds.set i d) := by simp [U,List.map_set]
theorem U_take (ds:List Int) (n:Nat):(U ds).take n = U (ds.take n) := by simp [U,List.map_take]
theorem U_drop (ds:List Int) (n:Nat):(U ds).drop n = U (ds.drop n) := by simp [U,List.map_drop]
theorem U_rep (n:Nat):repeatP (.int .u32 0) n = U (List.replicate n 0) := by
 induction n with
 | zero => rfl
 | succ n ih => simp [repeatP,ih,U,List.replicate_succ]
theorem U_nil:U [] = [] := rfl
theorem U_cons (d:Int) (ds:List Int):U (d :: ds) = .int .u32 d :: U ds := rfl
theorem U_all' (ds:List Int):(U ds).all (fun e => decide (e.cells.length = 1)) = true := by simp [U,PV.cells]
theorem U_inj:∀ {x y:List Int},U x = U y → x = y
 | [],[],_ => rfl
 | [],_ :: _,h => by simp [U] at h
 | _ :: _,[],h => by simp [U] at h
 | a :: x,b :: y,h => by
  have h:PV.int .u32 a :: U x = PV.int .u32 b :: U y := h
  simp only [List.cons.injEq,PV.int.injEq,true_and] at h
  rw [h.1,U_inj h.2]
def IsMag (v:PV) (ds:List Int):Prop := (v = .nil ∧ ds = []) ∨ v = .slice (U ds)
theorem IsMag.slice (ds:List Int):IsMag (.slice (U ds)) ds := .inr rfl
theorem IsMag.nil:IsMag .nil [] := .inl ⟨rfl,rfl⟩
section
variable {v:PV} {ds:List Int}
theorem IsMag.pure (h:IsMag v ds):v.pureB = true := by
 rcases h with ⟨rfl,_⟩ | rfl
 ·rfl
 ·simpa [PV.pureB] using U_pure ds
theorem IsMag.len (h:IsMag v ds):lenPV v = some ds.length := by
 rcases h with ⟨rfl,rfl⟩ | rfl
 ·rfl
 ·simp [lenPV,U_len]
theorem IsMag.ids (h:IsMag v ds):v.ids = [] := by rcases h with ⟨rfl,_⟩ | rfl <;> rfl
theorem IsMag.cells (h:IsMag v ds):v.cells = [v] := by rcases h with ⟨rfl,_⟩ | rfl <;> rfl
theorem IsMag.cellOk (h:IsMag v ds):v.cellOk = true := by rcases h with ⟨rfl,_⟩ | rfl <;> rfl
theorem IsMag.isTop (h:IsMag v ds):v.isTop = false := by rcases h with ⟨rfl,_⟩ | rfl <;> rfl
theorem IsMag.inj {es:List Int} (h:IsMag v ds) (h':IsMag v es):ds = es := by
 rcases h with ⟨rfl,rfl⟩ | rfl
 ·rcases h' with ⟨_,rfl⟩ | h'
  ·rfl
  ·cases h'
 ·rcases h' with ⟨h',_⟩ | h'
  ·cases h'
  ·simp only [PV.slice.injEq] at h'; exact U_inj h'
theorem IsMag.at (h:IsMag v ds) {i:Nat} (hi:i < ds.length):v = .slice (U ds) := by
 rcases h with ⟨_,rfl⟩ | h
 ·simp at hi
 ·exact h
theorem IsMag.ne (h:IsMag v ds) (hd:ds ≠ []):v = .slice (U ds) := by
 rcases h with ⟨_,rfl⟩ | h
 ·exact absurd rfl hd
 ·exact h
end
structure IntC (b:Bool) (m:PV) (z:Int) (ds:List Int):Prop where
 mag:IsMag m ds
 norm:Norm ds
 val:z = if b then -val ds else val ds
 neg:b = true → ds ≠ []
theorem IntC.natAbs {b:Bool} {m:PV} {z:Int} {ds:List Int} (h:IntC b m z ds):(z.natAbs:Int) = Num.val ds := by
 have := val_nonneg h.norm.dig
 rw [h.val]
 cases b <;> simp <;> omega
theorem IntC.neg_iff {b:Bool} {m:PV} {z:Int} {ds:List Int} (h:IntC b m z ds):b = decide (z < 0) := by
 have h0 := val_nonneg h.norm.dig
 rw [h.val]
 cases hb:b with
 | false => simp; omega
 | true =>
  have := norm_pos h.norm (h.neg hb)
  simp; omega
theorem IntC.zero_iff {b:Bool} {m:PV} {z:Int} {ds:List Int} (h:IntC b m z ds):z = 0 ↔ ds = [] := by
 rw [← norm_zero h.norm,h.val]
 cases b <;> simp <;> omega
def Fits (z:Int) (k:Nat):Prop := (z.natAbs:Int) < pw k
theorem IntC.len {b:Bool} {m:PV} {z:Int} {ds:List Int} (h:IntC b m z ds) {k:Nat} (hf:Fits z k):ds.length ≤ k := norm_len h.norm (by rw [← h.natAbs]; exact hf)
def IsInt (v:PV) (z:Int):Prop := ∃ b m ds,v = .agg [.bool b,m] ∧ IntC b m z ds
structure RatC (b:Bool) (m:PV) (c:Bool) (n:PV) (q:Rat) (ds es:List Int):Prop where
 num:IntC b m q.num ds
 den:IntC c n q.den es ∨ (q.den = 1 ∧ IntC c n 0 es)
def IsRat (v:PV) (q:Rat):Prop := ∃ b m c n ds es,v = .agg [.bool b,m,.bool c,n] ∧ RatC b m c n q ds es
theorem IsInt.pure {v:PV} {z:Int} (h:IsInt v z):v.pureB = true := by
 obtain ⟨b,m,ds,rfl,h⟩ := h
 simp [PV.pureB,PV.pureL,h.mag.pure]
theorem RatC.magDen {b c:Bool} {m n:PV} {q:Rat} {ds es:List Int} (h:RatC b m c n q ds es):IsMag n es := by
 rcases h.den with h | ⟨_,h⟩ <;> exact h.mag
theorem IsRat.pure {v:PV} {q:Rat} (h:IsRat v q):v.pureB = true := by
 obtain ⟨b,m,c,n,ds,es,rfl,h⟩ := h
 simp [PV.pureB,PV.pureL,h.num.mag.pure,h.magDen.pure]
theorem IsRat.cells {v:PV} {q:Rat} (h:IsRat v q):v.cells.length = 4 := by
 obtain ⟨b,m,c,n,ds,es,rfl,h⟩ := h
 rfl
theorem IsRat.inj {v:PV} {p q:Rat} (h:IsRat v p) (h':IsRat v q):p = q := by
 obtain ⟨b,m,c,n,ds,es,rfl,h⟩ := h
 obtain ⟨b',m',c',n',ds',es',e,h'⟩ := h'
 simp only [PV.agg.injEq,List.cons.injEq,PV.bool.injEq,and_true] at e
 obtain ⟨rfl,rfl,rfl,rfl⟩ := e
 have e1 := h.num.mag.inj h'.num.mag
 have e2 := h.magDen.inj h'.magDen
 subst e1; subst e2
 refine Rat.ext (by rw [h.num.val,h'.num.val]) ?_
 have hp := p.den_pos
 have hq := q.den_pos
 rcases h.den with k | ⟨k1,k⟩ <;> rcases h'.den with k' | ⟨k1',k'⟩
 ·have := k.val.trans k'.val.symm; omega
 ·have := k.val.trans k'.val.symm; omega
 ·have := k.val.trans k'.val.symm; omega
 ·omega
end Go.Pi
namespace Go.Num
theorem val_take_drop (ds:List Int) {i:Nat} (hi:i ≤ ds.length):val ds = val (ds.take i) + pw i * val (ds.drop i) := by
 have h := val_append (ds.take i) (ds.drop i)
 rw [List.take_append_drop,List.length_take,Nat.min_eq_left hi] at h
 exact h
structure DivInv (A V:Int) (la m:Nat) (D q:List Int) (i:Nat):Prop where
 dl:D.length = la+1
 dd:Dig D
 ql:q.length = m+1
 dq:Dig q
 sum:val D + V * (pw i * val (q.drop i)) = A
 low:val (D.drop i) < V
theorem DivInv.start {A V:Int} {la lb:Nat} {D q:List Int} {s:Int} (hl:lb ≤ la) (hb:1 ≤ lb) (dl:D.length = la+1) (dd:Dig D) (ql:q.length = la - lb+1) (dq:Dig q) (hA:val D = A) (hA2:A < s * pw la) (hV:s * pw (lb - 1) ≤ V) :
  DivInv A V la (la - lb) D q (la - lb+1) := by
 refine ⟨dl,dd,ql,dq,?_,?_⟩
 ·rw [List.drop_of_length_le (by omega)]; simp [val]; exact hA
 ·have h1 := val_take_drop D (i := la - lb+1) (by omega)
  have h2 := val_nonneg (dd.take (la - lb+1))
  have h3:pw (la - lb+1) * pw (lb - 1) = pw la := by rw [← pw_add]; congr 1; omega
  have h4 := pw_pos (la - lb+1)
  have h6:pw (la - lb+1) * (s * pw (lb - 1)) = s * pw la := by rw [← h3]; simp only [Int.mul_left_comm]
  have h5:pw (la - lb+1) * val (D.drop (la - lb+1)) < pw (la - lb+1) * (s * pw (lb - 1)) := by omega
  have := Int.lt_of_mul_lt_mul_left h5 (by omega)
  omega
theorem DivInv.ask {A V:Int} {la m:Nat} {D q:List Int} {j n:Nat} (h:DivInv A V la m D q (j+1)) (hm:j ≤ m) (hla:la = m + n) (hV:V < pw n) :
  val ((D.drop j).take (n+1)) < 4294967296 * V ∧ val (D.drop j) = val ((D.drop j).take (n+1)) ∧ n+1 ≤ (D.drop j).length ∧ val ((D.drop j).drop (n+1)) = 0 := by
 have dl := h.dl
 have hj:j < D.length := by omega
 have e := List.drop_eq_getElem_cons hj
 have r := h.dd.get hj
 have lo := h.low
 have hl:n+1 ≤ (D.drop j).length := by rw [List.length_drop]; omega
 have h1:val (D.drop j) = D[j] + 4294967296 * val (D.drop (j+1)) := by rw [e]; rfl
 have h2 := val_take_drop (D.drop j) hl
 have h3 := val_nonneg ((h.dd.drop j).take (n+1))
 have h4 := val_nonneg ((h.dd.drop j).drop (n+1))
 have h5:pw (n+1) = 4294967296 * pw n := rfl
 have h6 := pw_pos n
 have h7:val ((D.drop j).drop (n+1)) = 0 := by
  apply Classical.byContradiction
  intro hc
  have:pw (n+1) * 1 ≤ pw (n+1) * val ((D.drop j).drop (n+1)) := Int.mul_le_mul_of_nonneg_left (by omega) (by omega)
  omega
 rw [h7,Int.mul_zero,Int.add_zero] at h2
 exact ⟨by omega,h2,hl,h7⟩
theorem DivInv.step {A V:Int} {la m:Nat} {D q:List Int} {j n:Nat} {w:List Int} (h:DivInv A V la m D q (j+1)) (hm:j ≤ m) (hla:la = m + n) (hV:V < pw n) (hV0:0 < V) (wl:w.length = n+1) (dw:Dig w) (hw:val w = val ((D.drop j).take (n+1)) % V) :
  DivInv A V la m (D.take j ++ (w ++ (D.drop j).drop (n+1))) (q.set j (val ((D.drop j).take (n+1)) / V)) j := by
 obtain ⟨h1,h2,h3,h4⟩ := h.ask hm hla hV
 have dl := h.dl
 have ql := h.ql
 have e0 := val_take_drop D (i := j) (by omega)
 have nn := val_nonneg ((h.dd.drop j).take (n+1))
 have lt:(D.take j).length = j := by rw [List.length_take]; omega
 rw [List.length_drop] at h3
 obtain ⟨X,hX⟩:∃ X,X = val ((D.drop j).take (n+1)) := ⟨_,rfl⟩
 rw [← hX] at h1 h2 hw nn ⊢
 have hq0:0 ≤ X / V := Int.ediv_nonneg nn (by omega)
 have hq1:X / V < 4294967296 := Int.ediv_lt_of_lt_mul hV0 h1
 have dm := Int.mul_ediv_add_emod X V
 have vw:val (w ++ (D.drop j).drop (n+1)) = val w := by rw [val_append,h4]; simp
 have dj:(q.set j (X / V)).drop j = (X / V) :: q.drop (j+1) := by
  rw [List.drop_eq_getElem_cons (by simp; omega)]
  simp [List.drop_set_of_lt]
 have s := h.sum
 refine ⟨?_,?_,by simp [ql],h.dq.set ⟨hq0,hq1⟩,?_,?_⟩
 ·simp [wl]; omega
 ·exact (h.dd.take j).join (dw.join ((h.dd.drop j).drop (n+1)))
 ·rw [val_append,vw,dj,lt]
  simp only [val]
  rw [show pw (j+1) = 4294967296 * pw j from rfl] at s
  rw [hw]
  grind
 ·rw [List.drop_append_of_le_length (by omega),show (D.take j).drop j = [] by rw [List.drop_of_length_le (by omega)],List.nil_append,vw,hw]
  exact Int.emod_lt_of_pos _ hV0
theorem DivInv.done {A V:Int} {la m:Nat} {D q:List Int} (h:DivInv A V la m D q 0):val q = A / V ∧ val D = A % V := by
 have s := h.sum
 have lo := h.low
 rw [List.drop_zero] at s lo
 have nn := val_nonneg h.dd
 simp only [pw,Int.one_mul] at s
 have hV:0 < V := by omega
 have e:A / V = val q := by
  rw [← s,Int.add_mul_ediv_left _ _ (by omega),Int.ediv_eq_zero_of_lt nn lo]; omega
 refine ⟨e.symm,?_⟩
 rw [← s,Int.add_mul_emod_self_left,Int.emod_eq_of_lt nn lo]
theorem scaled_div (a b s:Int) (hs:0 < s) (hb:0 < b):(a * s) / (b * s) = a / b ∧ ((a * s) % (b * s)) / s = a % b := by
 refine ⟨Int.mul_ediv_mul_of_pos_left _ _ hs,?_⟩
 rw [Int.mul_comm a s,Int.mul_comm b s,Int.mul_emod_mul_of_pos _ _ hs,Int.mul_comm s]
 exact Int.mul_ediv_cancel _ (by omega)
theorem trim_take (ds:List Int):trimL ds = ds.take (trimL ds).length := by
 obtain ⟨⟨zs,h1,_⟩,_⟩ := trimL_facts _ ds rfl
 obtain ⟨t,ht⟩:∃ t,t = trimL ds := ⟨_,rfl⟩
 rw [← ht] at h1 ⊢
 rw [h1,List.take_append_of_le_length (Nat.le_refl _),List.take_length]
theorem norm_divisor {b dv:List Int} {q s:Nat} (db:Dig b) (hl:b.length = q + 2) (hs:s < 32) (h1:2147483648 ≤ b[q+1] * 2 ^ s) (h2:b[q+1] * 2 ^ s < 4294967296) (dd:Dig dv) (hv:val dv = val b * 2 ^ s) :
  (trimL dv).length = q + 2 ∧ 2147483648 ≤ (trimL dv).getD (q+1) 0 ∧ trimL dv = dv.take (q + 2) ∧ val (trimL dv) = val b * 2 ^ s ∧ val b * 2 ^ s < pw (q + 2) ∧ 2 ^ s * pw (q+1) ≤ val b * 2 ^ s ∧ 0 < val b * 2 ^ s := by
 have p0:(0:Int) < 2 ^ s := Int.pow_pos (by decide)
 have hsp:(2:Int) ^ s * 2 ^ (32 - s) = 4294967296 := by rw [← Int.pow_add,show s + (32 - s) = 32 by omega]; rfl
 have pq := pw_pos (q+1)
 have rb := db.get (show q+1 < b.length by omega)
 have e1 := val_take_succ (ds := b) (i := q+1) (by omega)
 rw [List.take_of_length_le (by omega)] at e1
 have n1 := val_nonneg (db.take (q+1))
 have n2 := val_lt (db.take (q+1))
 rw [List.length_take,Nat.min_eq_left (by omega)] at n2
 obtain ⟨t,ht⟩:∃ t,t = b[q+1] := ⟨_,rfl⟩
 rw [← ht] at h1 h2 rb e1
 have t1:1 ≤ t := by
  rcases Int.lt_or_le t 1 with h | h
  ·have:t = 0 := by omega
   rw [this,Int.zero_mul] at h1; omega
  ·exact h
 have t2:(t+1) * 2 ^ s ≤ 4294967296 := by
  have h3:t * 2 ^ s < 2 ^ (32 - s) * 2 ^ s := by rw [Int.mul_comm (2 ^ (32 - s)),hsp]; exact h2
  have h4:t < 2 ^ (32 - s) := Int.lt_of_mul_lt_mul_right h3 (by omega)
  have h5:(t+1) * 2 ^ s ≤ 2 ^ (32 - s) * 2 ^ s := Int.mul_le_mul_of_nonneg_right (by omega) (by omega)
  rw [Int.mul_comm (2 ^ (32 - s)),hsp] at h5
  exact h5
 obtain ⟨V,hV⟩:∃ V,V = val b * 2 ^ s := ⟨_,rfl⟩
 rw [← hV] at hv ⊢
 have V1:V < pw (q + 2) := by
  have h3:val b * 2 ^ s < ((t+1) * pw (q+1)) * 2 ^ s := Int.mul_lt_mul_of_pos_right (by grind) p0
  have h4:((t+1) * 2 ^ s) * pw (q+1) ≤ 4294967296 * pw (q+1) := Int.mul_le_mul_of_nonneg_right t2 (by omega)
  have h5:pw (q + 2) = 4294967296 * pw (q+1) := rfl
  have h6:((t+1) * pw (q+1)) * 2 ^ s = ((t+1) * 2 ^ s) * pw (q+1) := by grind
  omega
 have V2:2147483648 * pw (q+1) ≤ V := by
  have h3:(t * pw (q+1)) * 2 ^ s ≤ val b * 2 ^ s := Int.mul_le_mul_of_nonneg_right (by grind) (by omega)
  have h4:2147483648 * pw (q+1) ≤ (t * 2 ^ s) * pw (q+1) := Int.mul_le_mul_of_nonneg_right h1 (by omega)
  have h6:(t * pw (q+1)) * 2 ^ s = (t * 2 ^ s) * pw (q+1) := by grind
  omega
 have nv := norm_trim dd
 have ev := val_trim dv
 rw [hv] at ev
 have l1:(trimL dv).length ≤ q + 2 := norm_len nv (by rw [ev]; exact V1)
 have l2:q + 2 ≤ (trimL dv).length := by
  apply Classical.byContradiction
  intro hc
  have h3 := val_lt nv.dig
  have h4 := pw_mono (show (trimL dv).length ≤ q+1 by omega)
  omega
 have l:(trimL dv).length = q + 2 := by omega
 have tt := trim_take dv
 refine ⟨l,?_,by rw [l] at tt; exact tt,ev,V1,?_,by omega⟩
 ·have e2 := val_take_succ (ds := trimL dv) (i := q+1) (by omega)
  rw [List.take_of_length_le (by omega),ev] at e2
  have n4 := val_lt (nv.dig.take (q+1))
  rw [List.length_take,Nat.min_eq_left (by omega)] at n4
  have eg:(trimL dv).getD (q+1) 0 = (trimL dv)[q+1] := by simp [List.getD,l]
  rw [eg]
  apply Classical.byContradiction
  intro hc
  have h3:pw (q+1) * ((trimL dv)[q+1]+1) ≤ pw (q+1) * 2147483648 := Int.mul_le_mul_of_nonneg_left (by omega) (by omega)
  grind
 ·have h3:(1 * pw (q+1)) * 2 ^ s ≤ val b * 2 ^ s := by
   refine Int.mul_le_mul_of_nonneg_right ?_ (by omega)
   have:1 * pw (q+1) ≤ t * pw (q+1) := Int.mul_le_mul_of_nonneg_right t1 (by omega)
   grind
  grind
def IntText (l:List UInt8) (z:Int):Prop := (0 ≤ z ∧ DecText l z.natAbs) ∨ (z < 0 ∧ ∃ r,l = 45 :: r ∧ DecText r z.natAbs)
def RatText (l:List UInt8) (q:Rat):Prop := (q.den = 1 ∧ IntText l q.num) ∨ (q.den ≠ 1 ∧ ∃ a b,l = a ++ 47 :: b ∧ IntText a q.num ∧ DecText b q.den)
theorem DecText.inj {l:List UInt8} {n m:Nat} (h:DecText l n) (h':DecText l m):n = m := by rw [← h.val,h'.val]
theorem DecText.no {l:List UInt8} {n:Nat} (h:DecText l n) {c:UInt8} (hc:¬ isDigit c):c ∉ l := fun hm => hc (h.digits c hm)
theorem dig45:¬ isDigit 45 := fun h => absurd h.1 (by decide)
theorem dig47:¬ isDigit 47 := fun h => absurd h.1 (by decide)
theorem IntText.no47 {l:List UInt8} {z:Int} (h:IntText l z):(47:UInt8) ∉ l := by
 rcases h with ⟨_,h⟩ | ⟨_,r,rfl,h⟩
 ·exact h.no dig47
 ·intro hm
  rcases List.mem_cons.1 hm with h1 | h1
  ·exact absurd h1 (by decide)
  ·exact h.no dig47 h1
theorem IntText.inj {l:List UInt8} {z y:Int} (h:IntText l z) (h':IntText l y):z = y := by
 rcases h with ⟨h0,h⟩ | ⟨h0,r,rfl,h⟩
 ·rcases h' with ⟨k0,k⟩ | ⟨k0,r,rfl,k⟩
  ·have := h.inj k; omega
  ·exact absurd (List.mem_cons_self ..) (h.no dig45)
 ·rcases h' with ⟨k0,k⟩ | ⟨k0,r',e,k⟩
  ·exact absurd (List.mem_cons_self ..) (k.no dig45)
  ·cases e
   have := h.inj k; omega
def cutAt (c:UInt8):List UInt8 → List UInt8 × List UInt8 × Bool
 | [] => ([],[],false)
 | b :: l => if b = c then ([],l,true) else (b :: (cutAt c l).1,(cutAt c l).2.1,(cutAt c l).2.2)
theorem cutAt_no {c:UInt8}:∀ {l:List UInt8},c ∉ l → cutAt c l = (l,[],false)
 | [],_ => rfl
 | b :: l,h => by
  have h1:b ≠ c := fun e => h (by simp [e])
  have h2:c ∉ l := fun e => h (List.mem_cons_of_mem _ e)
  simp only [cutAt,if_neg h1,cutAt_no h2]
theorem cutAt_yes {c:UInt8}:∀ {a b:List UInt8},c ∉ a → cutAt c (a ++ c :: b) = (a,b,true)
 | [],b,_ => by simp [cutAt]
 | x :: a,b,h => by
  have h1:x ≠ c := fun e => h (by simp [e])
  have h2:c ∉ a := fun e => h (List.mem_cons_of_mem _ e)
  simp only [List.cons_append,cutAt,if_neg h1,cutAt_yes h2]
theorem cutAt_spec {c:UInt8}:∀ {l:List UInt8},((cutAt c l).2.2 = true → l = (cutAt c l).1 ++ c :: (cutAt c l).2.1) ∧ ((cutAt c l).2.2 = false → (cutAt c l).1 = l ∧ (cutAt c l).2.1 = [])
 | [] => by simp [cutAt]
 | b :: l => by
  have ih := cutAt_spec (c := c) (l := l)
  by_cases h:b = c
  ·simp [cutAt,h]
  ·simp only [cutAt,if_neg h]
   exact ⟨fun e => by rw [List.cons_append,← ih.1 e],fun e => by rw [(ih.2 e).1]; exact ⟨rfl,(ih.2 e).2⟩⟩
theorem ratText_iff {l x y:List UInt8} {f:Bool} (hc:cutAt 47 l = (x,y,f)) {q:Rat}:RatText l q ↔ (q.den = 1 ∧ f = false ∧ IntText x q.num) ∨ (q.den ≠ 1 ∧ f = true ∧ IntText x q.num ∧ DecText y q.den) := by
 constructor
 ·rintro (⟨h1,h2⟩ | ⟨h1,a,b,rfl,h2,h3⟩)
  ·rw [cutAt_no h2.no47] at hc
   cases hc
   exact .inl ⟨h1,rfl,h2⟩
  ·rw [cutAt_yes h2.no47] at hc
   cases hc
   exact .inr ⟨h1,rfl,h2,h3⟩
 ·have hs := cutAt_spec (c := 47) (l := l)
  rw [hc] at hs
  rintro (⟨h1,rfl,h2⟩ | ⟨h1,rfl,h2,h3⟩)
  ·obtain ⟨rfl,_⟩ := hs.2 rfl
   exact .inl ⟨h1,h2⟩
  ·exact .inr ⟨h1,x,y,hs.1 rfl,h2,h3⟩
theorem RatText.inj {l:List UInt8} {p q:Rat} (h:RatText l p) (h':RatText l q):p = q := by
 obtain ⟨⟨x,y,f⟩,hc⟩:∃ t:List UInt8 × List UInt8 × Bool,cutAt 47 l = t := ⟨_,rfl⟩
 rcases (ratText_iff hc).1 h with ⟨h1,rfl,h2⟩ | ⟨h1,rfl,h2,h3⟩ <;> rcases (ratText_iff hc).1 h' with ⟨k1,k0,k2⟩ | ⟨k1,k0,k2,k3⟩
 ·exact Rat.ext (h2.inj k2) (by omega)
 ·cases k0
 ·cases k0
 ·exact Rat.ext (h2.inj k2) (h3.inj k3)
theorem IntText.lt {l:List UInt8} {z:Int} (h:IntText l z):z.natAbs < 10 ^ l.length := by
 rcases h with ⟨_,h⟩ | ⟨_,r,rfl,h⟩
 ·exact h.lt
 ·have := h.lt
  rw [List.length_cons,Nat.pow_succ]; omega
theorem RatText.lt {l:List UInt8} {q:Rat} (h:RatText l q):q.num.natAbs < 10 ^ l.length ∧ q.den ≤ 10 ^ l.length := by
 rcases h with ⟨h1,h2⟩ | ⟨h1,a,b,rfl,h2,h3⟩
 ·exact ⟨h2.lt,by rw [h1]; exact Nat.pow_pos (by decide)⟩
 ·have e1 := h2.lt
  have e2 := h3.lt
  have l1:10 ^ a.length ≤ 10 ^ (a ++ 47 :: b).length := Nat.pow_le_pow_right (by decide) (by simp)
  have l2:10 ^ b.length ≤ 10 ^ (a ++ 47 :: b).length := Nat.pow_le_pow_right (by decide) (by simp; omega)
  omega
theorem IntText.len {l:List UInt8} {z:Int} (h:IntText l z) {k:Nat} (hz:z.natAbs < 10 ^ k) (hk:1 ≤ k):l.length ≤ k+1 := by
 rcases h with ⟨_,h⟩ | ⟨_,r,rfl,h⟩
 ·have := h.len hz hk; omega
 ·have := h.len hz hk; simp; omega
theorem RatText.len {l:List UInt8} {q:Rat} (h:RatText l q) {k:Nat} (h1:q.num.natAbs < 10 ^ k) (h2:q.den < 10 ^ k) (hk:1 ≤ k):l.length ≤ 2 * k + 2 := by
 rcases h with ⟨_,h⟩ | ⟨_,a,b,rfl,h,h'⟩
 ·have := h.len h1 hk; omega
 ·have := h.len h1 hk
  have := h'.len h2 hk
  simp; omega
def digB (b:UInt8):Bool := Nat.ble 48 b.toNat && Nat.ble b.toNat 57
theorem digB_iff {b:UInt8}:digB b = true ↔ isDigit b := by simp [digB,isDigit,Nat.ble_eq]
theorem all_digB {l:List UInt8}:l.all digB = true ↔ ∀ b ∈ l,isDigit b := by
 rw [List.all_eq_true]
 exact ⟨fun h b hb => digB_iff.1 (h b hb),fun h b hb => digB_iff.2 (h b hb)⟩
theorem decText_of {b:UInt8} {l:List UInt8} (hd:(b :: l).all digB = true) (hz:¬ (b.toNat = 48 ∧ 1 < (b :: l).length)):DecText (b :: l) (decVal (b :: l)) :=
 ⟨all_digB.1 hd,by simp,fun c r h hc => by
  cases h
  rcases l with _ | ⟨d,l⟩
  ·rfl
  ·exact absurd ⟨hc,by simp⟩ hz,rfl⟩
theorem DecText.all {l:List UInt8} {n:Nat} (h:DecText l n):l.all digB = true := all_digB.2 h.digits
theorem DecText.form {b:UInt8} {l:List UInt8} {n:Nat} (h:DecText (b :: l) n):¬ (b.toNat = 48 ∧ 1 < (b :: l).length) := fun ⟨h1,h2⟩ => by
 have := h.first b l rfl h1
 subst this
 simp at h2
theorem dig_ofNat {d:Nat} (h:d < 10):(UInt8.ofNat (48 + d)).toNat = 48 + d := by
 rw [UInt8.toNat_ofNat']; omega
theorem decText_digits:∀ u:Nat,DecText (Lib.decDigits u) u := by
 intro u
 induction u using Nat.strongRecOn with
 | ind u ih =>
  by_cases h:u < 10
  ·have e:Lib.decDigits u = [UInt8.ofNat (48 + u)] := Lib.decDigits_one h
   have hd := dig_ofNat h
   rw [e]
   refine ⟨fun b hb => ?_,by simp,fun b r hb _ => ?_,?_⟩
   ·simp only [List.mem_singleton] at hb
    subst hb
    exact ⟨by omega,by omega⟩
   ·simp only [List.cons.injEq] at hb
    exact hb.2.symm
   ·have := decVal_cons (UInt8.ofNat (48 + u)) []
    rw [this,hd]
    simp [decVal]
  ·have e:Lib.decDigits u = Lib.decDigits (u / 10) ++ [UInt8.ofNat (48 + u % 10)] := by rw [Lib.decDigits,dif_neg h]
   have h1 := ih (u / 10) (by omega)
   have hd := dig_ofNat (show u % 10 < 10 by omega)
   rw [e]
   refine ⟨fun b hb => ?_,by simp,fun b r hb hz => ?_,?_⟩
   ·rcases List.mem_append.1 hb with hb | hb
    ·exact h1.digits b hb
    ·simp only [List.mem_singleton] at hb
     subst hb
     exact ⟨by omega,by omega⟩
   ·exfalso
    obtain ⟨c,l,hl⟩:∃ c l,Lib.decDigits (u / 10) = c :: l := by
     rcases hq:Lib.decDigits (u / 10) with _ | ⟨c,l⟩
     ·exact absurd hq h1.ne
     ·exact ⟨c,l,rfl⟩
    rw [hl] at hb
    simp only [List.cons_append,List.cons.injEq] at hb
    obtain ⟨rfl,_⟩ := hb
    have h2 := h1.first c l hl hz
    subst h2
    have := h1.val
    rw [hl,decVal_cons] at this
    simp [decVal,hz] at this
    omega
   ·rw [decVal_append,h1.val,decVal_cons,hd]
    simp [decVal]
    omega
structure TextInv (V v:Nat) (gs:List (List UInt8)):Prop where
 sum:V = v * 10 ^ gs.flatten.length + decVal gs.flatten
 dig:∀ b ∈ gs.flatten,isDigit b
 fin:v = 0 → V = 0 ∨ DecText gs.flatten V
 all:0 < v → ∀ g ∈ gs,g.length = 9
 len:∀ g ∈ gs,g.length ≤ 9
theorem TextInv.start (V:Nat):TextInv V V [] := ⟨by simp [decVal],by simp,fun h => .inl h,by simp,by simp⟩
def padTo (s:List UInt8):List UInt8 := zeros (9 - s.length) ++ s
theorem padTo_len {s:List UInt8} (h:s.length ≤ 9):(padTo s).length = 9 := by
 simp [padTo,zeros]; omega
theorem padTo_val (s:List UInt8):decVal (padTo s) = decVal s := decVal_zeros _ _
theorem padTo_dig {s:List UInt8} (h:∀ b ∈ s,isDigit b):∀ b ∈ padTo s,isDigit b := fun b hb => by
 rcases List.mem_append.1 hb with hb | hb
 ·exact zeros_digits hb
 ·exact h b hb
theorem TextInv.more {V v:Nat} {gs:List (List UInt8)} {s:List UInt8} (h:TextInv V v gs) (hs:DecText s (v % 1000000000)) (hq:0 < v / 1000000000):TextInv V (v / 1000000000) (padTo s :: gs) := by
 have hv:0 < v := by
  rcases Nat.eq_zero_or_pos v with h0 | h0
  ·subst h0; simp at hq
  ·exact h0
 have sl := hs.len (show v % 1000000000 < 10 ^ 9 by omega) (by omega)
 have pl := padTo_len sl
 refine ⟨?_,fun b hb => ?_,fun h0 => by omega,fun _ g hg => ?_,fun g hg => ?_⟩
 ·have e1 := h.sum
  have e2 := Nat.div_add_mod v 1000000000
  simp only [List.flatten_cons,List.length_append,pl,decVal_append,padTo_val,hs.val]
  rw [Nat.pow_add]
  have:v * 10 ^ gs.flatten.length = (1000000000 * (v / 1000000000) + v % 1000000000) * 10 ^ gs.flatten.length := by rw [e2]
  rw [e1,this]
  have:(10:Nat) ^ 9 = 1000000000 := rfl
  rw [this]
  grind
 ·rw [List.flatten_cons] at hb
  rcases List.mem_append.1 hb with hb | hb
  ·exact padTo_dig hs.digits b hb
  ·exact h.dig b hb
 ·rcases List.mem_cons.1 hg with rfl | hg
  ·exact pl
  ·exact h.all hv g hg
 ·rcases List.mem_cons.1 hg with rfl | hg
  ·omega
  ·exact h.len g hg
theorem TextInv.last {V v:Nat} {gs:List (List UInt8)} {s:List UInt8} (h:TextInv V v gs) (hs:DecText s (v % 1000000000)) (hv:0 < v) (hq:v / 1000000000 = 0):TextInv V 0 (s :: gs) := by
 have sl := hs.len (show v % 1000000000 < 10 ^ 9 by omega) (by omega)
 have em:v % 1000000000 = v := by omega
 rw [em] at hs
 have e1 := h.sum
 have ev:decVal (s :: gs).flatten = V := by
  rw [List.flatten_cons,decVal_append,hs.val,← e1]
 have ed:∀ b ∈ (s :: gs).flatten,isDigit b := fun b hb => by
  rw [List.flatten_cons] at hb
  rcases List.mem_append.1 hb with hb | hb
  ·exact hs.digits b hb
  ·exact h.dig b hb
 refine ⟨by rw [ev]; omega,ed,fun _ => .inr ⟨ed,?_,fun b r hb hz => ?_,ev⟩,fun h0 => by omega,fun g hg => ?_⟩
 ·rw [List.flatten_cons]
  have := hs.ne
  simp [this]
 ·exfalso
  obtain ⟨c,l,rfl⟩:∃ c l,s = c :: l := by
   rcases s with _ | ⟨c,l⟩
   ·exact absurd rfl hs.ne
   ·exact ⟨c,l,rfl⟩
  simp only [List.flatten_cons,List.cons_append,List.cons.injEq] at hb
  obtain ⟨rfl,_⟩ := hb
  have h2 := hs.first c l rfl hz
  subst h2
  have := hs.val
  rw [decVal_cons] at this
  simp [decVal,hz] at this
  omega
 ·rcases List.mem_cons.1 hg with rfl | hg
  ·omega
  ·exact h.len g hg
theorem join_nil (xs:List (List UInt8)):Lib.join xs [] = xs.flatten := by
 unfold Lib.join
 induction xs with
 | nil => rfl
 | cons x xs ih =>
  rcases xs with _ | ⟨y,ys⟩
  ·simp [List.intercalate]
  ·have e:[].intercalate (x :: y :: ys) = x ++ [] ++ [].intercalate (y :: ys) := by simp [List.intercalate,List.intersperse]
   rw [e,ih]; simp
theorem repeat_zeros (n:Nat):Lib.repeatL [48] n = zeros n := by
 induction n with
 | zero => rfl
 | succ n ih => simp [Lib.repeatL,ih,zeros,List.replicate_succ]
def badZero (l:List UInt8):Bool := match l with | [] => false | b :: r => decide (b = 48) && !r.isEmpty
def decB (l:List UInt8):Bool := !l.isEmpty && l.all digB && !badZero l
theorem toNat48 {b:UInt8}:b.toNat = 48 ↔ b = 48 := ⟨fun h => UInt8.toNat_inj.1 h,fun h => by rw [h]; rfl⟩
theorem decText_iff {l:List UInt8} {n:Nat}:DecText l n ↔ decB l = true ∧ n = decVal l := by
 constructor
 ·intro h
  refine ⟨?_,h.val.symm⟩
  rcases l with _ | ⟨b,l⟩
  ·exact absurd rfl h.ne
  ·have h1 := h.all
   have h2 := h.form
   rw [toNat48] at h2
   unfold decB badZero
   rw [h1]
   by_cases hb:b = 48
   ·have hl:l = [] := by
     rcases l with _ | ⟨c,l⟩
     ·rfl
     ·exact absurd ⟨hb,by simp⟩ h2
    simp [hl]
   ·simp [hb]
 ·rintro ⟨h,rfl⟩
  rcases l with _ | ⟨b,l⟩
  ·simp [decB] at h
  ·unfold decB badZero at h
   simp only [Bool.and_eq_true,Bool.not_eq_true'] at h
   refine decText_of h.1.2 fun ⟨h1,h2⟩ => ?_
   rw [toNat48] at h1
   have h3 := h.2
   rcases l with _ | ⟨c,l⟩
   ·simp at h2
   ·simp [h1] at h3
theorem decVal_pos {l:List UInt8} (h:decB l = true) (h0:l ≠ [48]):0 < decVal l := by
 rcases l with _ | ⟨b,l⟩
 ·simp [decB] at h
 ·have hd := (decText_iff (l := b :: l) (n := decVal (b :: l))).2 ⟨h,rfl⟩
  by_cases hb:b = 48
  ·have := hd.first b l rfl (toNat48.2 hb)
   subst this; subst hb
   exact absurd rfl h0
  ·have h1 := decVal_ge (b := b) (l := l) (hd.digits b (by simp)) (fun e => hb (toNat48.1 e))
   have:0 < 10 ^ l.length := Nat.pow_pos (by decide)
   omega
def unsigned (l:List UInt8):List UInt8 × Bool := match l with | [] => ([],false) | b :: r => if b = 45 then (r,true) else (b :: r,false)
def intB (l:List UInt8):Bool := decB (unsigned l).1 && !((unsigned l).2 && decide ((unsigned l).1 = [48]))
def intV (l:List UInt8):Int := if (unsigned l).2 then -(decVal (unsigned l).1:Int) else decVal (unsigned l).1
theorem decB_no45 {l:List UInt8} (h:decB l = true):(45:UInt8) ∉ l := ((decText_iff (n := decVal l)).2 ⟨h,rfl⟩).no dig45
theorem unsigned_neg (l:List UInt8):unsigned (45 :: l) = (l,true) := by simp [unsigned]
theorem unsigned_pos {l:List UInt8} (h:(45:UInt8) ∉ l):unsigned l = (l,false) := by
 rcases l with _ | ⟨b,l⟩
 ·rfl
 ·have:b ≠ 45 := fun e => h (by simp [e])
  simp [unsigned,this]
theorem intText_iff {l:List UInt8} {z:Int}:IntText l z ↔ intB l = true ∧ z = intV l := by
 constructor
 ·rintro (⟨h0,h⟩ | ⟨h0,r,rfl,h⟩)
  ·have hb := decText_iff.1 h
   have hu := unsigned_pos (decB_no45 hb.1)
   unfold intB intV
   rw [hu]
   simp [hb.1]
   omega
  ·have hb := decText_iff.1 h
   unfold intB intV
   rw [unsigned_neg]
   have:r ≠ [48] := fun e => by
    have := hb.2
    rw [e] at this
    have:z.natAbs = 0 := by rw [this]; decide
    omega
   simp [hb.1,this]
   omega
 ·rintro ⟨h,rfl⟩
  unfold intB at h
  simp only [Bool.and_eq_true,Bool.not_eq_true',Bool.and_eq_false_iff,decide_eq_false_iff_not] at h
  rcases l with _ | ⟨b,l⟩
  ·simp [unsigned,decB] at h
  ·by_cases hb:b = 45
   ·subst hb
    rw [unsigned_neg] at h
    have hne:l ≠ [48] := by simpa using h.2
    have hp := decVal_pos h.1 hne
    refine .inr ⟨by unfold intV; rw [unsigned_neg]; simp; omega,l,rfl,decText_iff.2 ⟨h.1,?_⟩⟩
    unfold intV; rw [unsigned_neg]; simp
   ·have hu:unsigned (b :: l) = (b :: l,false) := by simp [unsigned,hb]
    rw [hu] at h
    refine .inl ⟨by unfold intV; rw [hu]; simp,decText_iff.2 ⟨h.1,?_⟩⟩
    unfold intV; rw [hu]; simp
def ratB (l:List UInt8):Bool :=
 match cutAt 47 l with
 | (x,y,false) => intB x
 | (x,y,true) => intB x && decB y && decide (1 < decVal y) && decide (Nat.gcd (intV x).natAbs (decVal y) = 1)
theorem ratB_iff {l:List UInt8}:ratB l = true ↔ ∃ q,RatText l q := by
 obtain ⟨⟨x,y,f⟩,hc⟩:∃ t:List UInt8 × List UInt8 × Bool,cutAt 47 l = t := ⟨_,rfl⟩
 unfold ratB
 rw [hc]
 cases f with
 | false =>
  constructor
  ·intro h
   exact ⟨(intV x:Rat),(ratText_iff hc).2 (.inl ⟨by simp,rfl,by simp; exact intText_iff.2 ⟨h,rfl⟩⟩)⟩
  ·rintro ⟨q,h⟩
   rcases (ratText_iff hc).1 h with ⟨_,_,h⟩ | ⟨_,h,_⟩
   ·exact (intText_iff.1 h).1
   ·cases h
 | true =>
  simp only [Bool.and_eq_true,decide_eq_true_eq]
  constructor
  ·rintro ⟨⟨⟨h1,h2⟩,h3⟩,h4⟩
   refine ⟨⟨intV x,decVal y,by omega,h4⟩,(ratText_iff hc).2 (.inr ⟨by show decVal y ≠ 1; omega,rfl,intText_iff.2 ⟨h1,rfl⟩,decText_iff.2 ⟨h2,rfl⟩⟩)⟩
  ·rintro ⟨q,h⟩
   rcases (ratText_iff hc).1 h with ⟨_,h,_⟩ | ⟨h0,_,h1,h2⟩
   ·cases h
   ·have e1 := intText_iff.1 h1
    have e2 := decText_iff.1 h2
    have hq := q.den_pos
    have hr := q.reduced
    rw [← e1.2,← e2.2]
    exact ⟨⟨⟨e1.1,e2.1⟩,by omega⟩,hr⟩
end Go.Num
