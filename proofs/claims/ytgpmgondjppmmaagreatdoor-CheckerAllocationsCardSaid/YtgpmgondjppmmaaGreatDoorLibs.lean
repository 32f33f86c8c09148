/- Go's library's functions: their summaries are right in this program. No condition. -/
import Derived.Test.YtgpmgondjppmmaaGreatDoorData
import Derived.Test.YtgpmgondjppmmaaGreatDoorLayd
import Derived.Test.YtgpmgondjppmmaaGreatDoorM4
import Derived.Lib.AppendIntMem
import Derived.Test.YtgpmgondjppmmaaGreatDoorP1
set_option linter.unnecessarySimpa false
set_option linter.unusedSectionVars false
set_option linter.unusedSimpArgs false
set_option linter.unusedVariables false
set_option maxRecDepth 100000
namespace Go.Pi
open Go.RowKit (Below)
variable [Hole]
theorem cut1_eq (c:UInt8):∀ l:List UInt8,cut1 c l = Lib.cut l [c]
 | [] => by simp [cut1,Lib.cut,Lib.index]
 | b :: l => by
  have ih := cut1_eq c l
  have hge := Lib.index_ge l [c]
  simp only [cut1,ih,Lib.cut,Lib.index,List.isPrefixOf,Bool.and_true,Bool.cond_eq_ite,nat_beq_eq]
  by_cases h:b = c
  ·subst h
   simp
  ·have h1:¬ b.toNat = c.toNat := fun e => h (UInt8.toNat_inj.1 e)
   have h2:(c == b) = false := by simpa using fun e:c = b => h e.symm
   simp only [if_neg h1,h2,Bool.false_eq_true,if_false]
   by_cases h3:Lib.index l [c] = -1
   ·simp [h3]
   ·have h4:0 ≤ Lib.index l [c] := by omega
    have h5:0 ≤ Lib.index l [c]+1 := by omega
    have h6:(Lib.index l [c] == -1) = false := by simpa using h3
    have h7:(Lib.index l [c]+1).toNat = (Lib.index l [c]).toNat+1 := by omega
    simp only [h6,Bool.false_eq_true,if_false,if_pos h4,if_pos h5,h7,List.take_succ_cons,List.length_singleton,List.drop_succ_cons]
theorem memU_eq (cs:List UInt8) (b:UInt8):memU cs b = cs.contains b := by
 induction cs with
 | nil => rfl
 | cons a cs ih =>
  simp only [memU,ih,List.contains_cons]
  congr 1
  rw [Bool.eq_iff_iff,nat_beq_eq,beq_iff_eq]
  exact ⟨fun e => (UInt8.toNat_inj.1 e).symm,fun e => by rw [e]⟩
theorem dropU_eq (cs l:List UInt8):dropU cs l = l.dropWhile (cs.contains ·) := by
 induction l with
 | nil => rfl
 | cons b l ih =>
  simp only [dropU,memU_eq,List.dropWhile_cons,Bool.cond_eq_ite,ih]
theorem trimU_eq (l cs:List UInt8):trimU l cs = Lib.trimS l cs := by
 simp only [trimU,dropU_eq,Lib.trimS,Lib.trimLeftS,Lib.trimRightS]
theorem behind_eq:∀ s p:List UInt8,behind s p = if p.isPrefixOf s then some (s.drop p.length) else none
 | s,[] => by cases s <;> simp [behind]
 | [],b :: p => by simp [behind,List.isPrefixOf]
 | a :: s,b :: p => by
  simp only [behind,behind_eq s p,List.isPrefixOf,Bool.cond_eq_ite,nat_beq_eq,List.length_cons,List.drop_succ_cons]
  by_cases h:a = b
  ·subst h; simp
  ·have h1:¬ a.toNat = b.toNat := fun e => h (UInt8.toNat_inj.1 e)
   have h2:(b == a) = false := by simpa using fun e:b = a => h e.symm
   simp [h1,h2]
theorem digitsU_ok:∀ (l:List UInt8) (acc u:Nat),acc < 4294967296 → digitsU acc l = some u → Lib.parseUintM (2 ^ 32 - 1) acc l = .ok u ∧ u < 4294967296
 | [],acc,u,ha,h => by
  simp only [digitsU,Option.some.injEq] at h
  subst h
  exact ⟨rfl,ha⟩
 | b :: l,acc,u,ha,h => by
  simp only [digitsU,bif_some,Bool.and_eq_true,ble_iff,blt_iff] at h
  obtain ⟨⟨⟨h1,h2⟩,h3⟩,h⟩ := h
  have ih := digitsU_ok l _ u h3 h
  refine ⟨?_,ih.2⟩
  rw [Lib.parseUintM,if_pos ⟨h1,h2⟩,if_neg (by omega),if_neg (by omega)]
  exact ih.1
section
variable {P:Program} {G:Nat → Option PV}
theorem sum_flat {f:FuncId} {F:Fn1} (hen:Enters P f)
  (h:∀ vs r,F vs = some r → ∀ (w:World) (I:Nat → Prop) (xs:List Value),(∀ b,I b → b < w.heap.size) → GlobOk G w I → All2 (PRep w I) vs xs →
   Calls P f xs.toArray w fun e w' => ∃ x,e = .returned x ∧ Below w.heap.size w w' ∧ ∀ (w':World) (I':Nat → Prop),PRep w' I' r x):Sum P G f F := by
 refine ⟨hen,fun vs r hr w I xs hI hG ha => (h vs r hr w I xs hI hG ha).mono ?_⟩
 rintro e w' ⟨x,rfl,hb,hp⟩
 exact ⟨x,I,rfl,hb,fun b h => h,fun b h => ⟨Nat.lt_of_lt_of_le (hI b h) hb.size,.inl h⟩,hp w' I⟩
theorem gives_flat {f:FuncId} {vs:List PV} {r:PV} {Q:PV → Prop} (hen:Enters P f) (hq:Q r)
  (h:∀ (w:World) (I:Nat → Prop) (xs:List Value),(∀ b,I b → b < w.heap.size) → GlobOk G w I → All2 (PRep w I) vs xs →
   Calls P f xs.toArray w fun e w' => ∃ x,e = .returned x ∧ Below w.heap.size w w' ∧ ∀ (w':World) (I':Nat → Prop),PRep w' I' r x):Gives P G f vs Q :=
 ⟨r,hq,sum_flat hen fun as' r' h' w I xs hI hG ha => by
  unfold oneRow at h'
  split at h'
  ·rename_i e; cases h'; subst e; exact h w I xs hI hG ha
  ·cases h'⟩
theorem two_strs {w:World} {I:Nat → Prop} {a b:ByteArray} {xs:List Value} (h:All2 (PRep w I) [.str a,.str b] xs):xs = [.string a,.string b] := by
 obtain ⟨x,ys,rfl,h1,h2⟩ := h.cons_inv
 obtain ⟨y,zs,rfl,h3,h4⟩ := h2.cons_inv
 cases h1; cases h3; rw [h4.nil_inv]
theorem pv_str (w:World) (I:Nat → Prop) (l:List UInt8):PRep w I (bstr l) (.string ⟨l.toArray⟩) := .str _
theorem tuple_rep {w:World} {I:Nat → Prop} {cs:List PV} {xs:List Value} (h:All2 (PRep w I) cs xs):PRep w I (.tuple cs) (.tuple xs.toArray) := .tuple _ _ h.1 h.2
end
end Go.Pi
namespace Go.Proofs.Tryz
open Go Go.Pi Go.Num
open Go.RowKit (Below)
variable [Hole] {G:Nat → Option PV}
theorem enters_pi {f : Nat} {fn : Func} (h : prog.funcs[f]? = some fn) (hb : fn.body.isSome = true) (hn : fn.name ≠ "runtime.NumGoroutine") : Pi.Enters prog f := ⟨fn, h, hb, hn⟩
theorem sum_cut {m:Int} (hG:G 0 = some (.hole 1)) (hv:Hole.val 1 = .int .i64 m):Sum prog G 138 cutF := by
 refine sum_flat (enters_pi func138 (by kernel_rfl) (by decide)) fun vs r h w I xs _ hg ha => ?_
 unfold cutF at h
 split at h
 case h_2 => cases h
 rename_i a b
 split at h
 case h_2 => cases h
 rename_i c hc
 simp only [bif_some] at h
 obtain ⟨hs,h⟩ := h
 cases two_strs ha
 have hcell:w.cell? ⟨0,0,none⟩ = some (.int .i64 m) := by
  obtain ⟨_,ys,h1,h2,_⟩ := hg 0 _ hG
  obtain ⟨x,zs,rfl,h3,h4⟩ := h2.cons_inv
  have := h1 0 x rfl
  cases h3
  rw [hv] at this
  simpa using this
 refine (Any.strings_Cut Tryz.layCut a b m w (by simpa [smallS] using hs) hcell).mono ?_
 rintro e w' ⟨rfl,n,rfl⟩
 refine ⟨_,rfl,(Below.refl _ _).trans ⟨rfl,rfl,rfl,Nat.le_refl _,fun _ _ => rfl⟩,fun w' I' => ?_⟩
 have hb:b.data.toList = [c] := hc
 rw [hb,← cut1_eq]
 generalize cut1 c a.data.toList = t at h ⊢
 obtain ⟨x,y,f⟩ := t
 cases h
 exact tuple_rep (.cons (pv_str _ _ _) (.cons (pv_str _ _ _) (.cons (.bool _) .nil)))
theorem sum_trimPrefix:Sum prog G 140 trimPrefixF := by
 refine sum_flat (enters_pi func140 (by kernel_rfl) (by decide)) fun vs r h w I xs _ hg ha => ?_
 unfold trimPrefixF at h
 split at h
 case h_2 => cases h
 rename_i a b
 cases two_strs ha
 refine (Any.strings_TrimPrefix Tryz.layTrimPrefix a b w).mono ?_
 rintro e w' ⟨rfl,rfl⟩
 refine ⟨_,rfl,Below.refl _ _,fun w' I' => ?_⟩
 rw [behind_eq] at h
 have ep:Lib.hasPrefix a.data.toList b.data.toList = b.data.toList.isPrefixOf a.data.toList := rfl
 unfold Lib.trimPrefix
 split at h
 ·rename_i x hx
  split at hx
  ·rename_i hp
   cases hx; cases h
   rw [if_pos (ep.trans hp)]; exact pv_str _ _ _
  ·cases hx
 ·rename_i hx
  split at hx
  ·cases hx
  ·rename_i hp
   cases h
   rw [if_neg (by rw [ep]; exact hp)]; exact pv_str _ _ _
theorem sum_cutPrefix:Sum prog G 172 cutPrefixF := by
 refine sum_flat (enters_pi func172 (by kernel_rfl) (by decide)) fun vs r h w I xs _ hg ha => ?_
 unfold cutPrefixF at h
 split at h
 case h_2 => cases h
 rename_i a b
 cases two_strs ha
 refine (Any.strings_CutPrefix Tryz.layCutPrefix a b w).mono ?_
 rintro e w' ⟨rfl,rfl⟩
 refine ⟨_,rfl,Below.refl _ _,fun w' I' => ?_⟩
 rw [behind_eq] at h
 have ep:Lib.hasPrefix a.data.toList b.data.toList = b.data.toList.isPrefixOf a.data.toList := rfl
 unfold Lib.trimPrefix
 split at h
 ·rename_i x hx
  split at hx
  ·rename_i hp
   cases hx; cases h
   rw [if_pos (ep.trans hp),ep,hp]; exact tuple_rep (.cons (pv_str _ _ _) (.cons (.bool _) .nil))
  ·cases hx
 ·rename_i hx
  split at hx
  ·cases hx
  ·rename_i hp
   cases h
   rw [if_neg (by rw [ep]; exact hp),ep,Bool.eq_false_iff.2 hp]; exact tuple_rep (.cons (pv_str _ _ _) (.cons (.bool _) .nil))
theorem sum_trim:Sum prog G 141 trimF := by
 refine sum_flat (enters_pi func141 (by kernel_rfl) (by decide)) fun vs r h w I xs _ hg ha => ?_
 unfold trimF at h
 split at h
 case h_2 => cases h
 rename_i a b
 simp only [bif_some,Bool.and_eq_true] at h
 obtain ⟨⟨⟨h1,h2⟩,h3⟩,h⟩ := h
 cases two_strs ha
 have ha:a.size < 4294967281 := by simpa [smallS] using h1
 have hb:b.size < 4294967281 := by simpa [smallS] using h2
 refine (Any.strings_Trim_laid Tryz.layTrim (by kernel_rfl) a b w (by omega) hb fun j c hj => ?_).mono ?_
 ·exact blt_iff.1 (List.all_eq_true.1 h3 c (List.mem_of_getElem? hj))
 rintro e w' ⟨rfl,hB⟩
 refine ⟨_,rfl,hB,fun w' I' => ?_⟩
 rw [← trimU_eq]
 cases h
 exact pv_str _ _ _
theorem sum_parseUint:Sum prog G 174 parseUintF := by
 refine sum_flat (enters_pi func174 (by kernel_rfl) (by decide)) fun vs r h w I xs _ hg ha => ?_
 unfold parseUintF at h
 split at h
 case h_2 => cases h
 rename_i a
 split at h
 ·cases h
 rename_i hne
 simp only [bif_some] at h
 obtain ⟨hs,h⟩ := h
 split at h
 case h_2 => cases h
 rename_i u hu
 cases h
 obtain ⟨x,ys,rfl,h1,h2⟩ := ha.cons_inv
 obtain ⟨y,zs,rfl,h3,h4⟩ := h2.cons_inv
 obtain ⟨z,ws,rfl,h5,h6⟩ := h4.cons_inv
 cases h1; cases h3; cases h5; rw [h6.nil_inv]
 have ha:a.size < 4294967281 := by simpa [smallS] using hs
 have hp:Lib.parseUintB 32 a.data.toList = .ok u := by
  rw [Lib.parseUintB,if_neg hne]
  exact (digitsU_ok _ _ _ (by decide) hu).1
 refine (Any.strconv_ParseUint_10_at32_ok Tryz.layParseUint a (by omega) u hp w).mono ?_
 rintro e w' ⟨rfl,hw⟩
 refine ⟨_,rfl,?_,fun w' I' => tuple_rep (.cons (.int _ _) (.cons .nilIface .nil))⟩
 rcases hw with rfl | rfl
 ·exact Below.refl _ _
 ·exact Lib.bytesWorld_below _ _ _
theorem lib_env {m:Int} (hv:Hole.val 1 = .int .i64 m):EnvOk prog YtgpmgondjppmmaaGreatDoor.G1 YtgpmgondjppmmaaGreatDoor.lib := by
 have hG:YtgpmgondjppmmaaGreatDoor.G1 0 = some (.hole 1) := rfl
 intro f F hF
 unfold YtgpmgondjppmmaaGreatDoor.lib libEnv at hF
 cases e1:Nat.beq f 138
 ·rw [e1,cond_false] at hF
  cases e2:Nat.beq f 140
  ·rw [e2,cond_false] at hF
   cases e3:Nat.beq f 141
   ·rw [e3,cond_false] at hF
    cases e4:Nat.beq f 172
    ·rw [e4,cond_false] at hF
     simp only [bif_some,nat_beq_eq,Option.some.injEq] at hF
     obtain ⟨rfl,rfl⟩ := hF
     exact sum_parseUint
    ·rw [e4,cond_true] at hF
     obtain rfl := nat_beq_eq.1 e4
     cases hF
     exact sum_cutPrefix
   ·rw [e3,cond_true] at hF
    obtain rfl := nat_beq_eq.1 e3
    cases hF
    exact sum_trim
  ·rw [e2,cond_true] at hF
   obtain rfl := nat_beq_eq.1 e2
   cases hF
   exact sum_trimPrefix
 ·rw [e1,cond_true] at hF
  obtain rfl := nat_beq_eq.1 e1
  cases hF
  exact sum_cut hG hv
theorem small_ba {l:List UInt8} (h:l.length ≤ 100000):smallS (ba l) = true := by
 unfold smallS
 rw [blt_iff,ba_size]; omega
theorem cut1_at (c:UInt8):∀ l:List UInt8,cut1 c l = cutAt c l
 | [] => rfl
 | b :: l => by
  have ih := cut1_at c l
  simp only [cut1,cutAt,ih]
  by_cases h:b = c
  ·subst h; simp
  ·have h1:¬ b.toNat = c.toNat := fun e => h (UInt8.toNat_inj.1 e)
   rw [if_neg h]
   have:Nat.beq b.toNat c.toNat = false := by rw [← Bool.not_eq_true,nat_beq_eq]; exact h1
   rw [this,cond_false]
theorem behind45 (l:List UInt8):behind l [45] = if (unsigned l).2 then some (unsigned l).1 else none := by
 match l with
 | [] => rfl
 | b :: r =>
  unfold behind unsigned
  by_cases h:b = 45
  ·subst h; cases r <;> rfl
  ·have h1:¬ b.toNat = (45:UInt8).toNat := fun e => h (UInt8.toNat_inj.1 e)
   have:Nat.beq b.toNat (45:UInt8).toNat = false := by rw [← Bool.not_eq_true,nat_beq_eq]; exact h1
   rw [this]
   simp [h]
theorem unsigned_no {l:List UInt8} (h:(unsigned l).2 = false):(unsigned l).1 = l := by
 match l with
 | [] => rfl
 | b :: r =>
  unfold unsigned at h ⊢
  by_cases hb:b = 45
  ·simp [hb] at h
  ·simp [hb]
theorem digitsU_dec:∀ (l:List UInt8) (acc k:Nat),l.all digB = true → acc < 10 ^ k → l.length + k ≤ 9 → digitsU acc l = some (l.foldl (fun a b => a * 10 + (b.toNat - 48)) acc)
 | [],_,_,_,_,_ => rfl
 | b :: l,acc,k,hd,ha,hk => by
  simp only [List.all_cons,Bool.and_eq_true] at hd
  have hb := hd.1
  simp only [digB,Bool.and_eq_true,ble_iff] at hb
  have h1:acc * 10 + (b.toNat - 48) < 10 ^ (k+1) := by rw [Nat.pow_succ]; omega
  simp only [List.length_cons] at hk
  have h2:(10:Nat) ^ (k+1) ≤ 10 ^ 9 := Nat.pow_le_pow_right (by decide) (by omega)
  have h3:(Nat.ble 48 b.toNat && Nat.ble b.toNat 57 && Nat.blt (acc * 10 + (b.toNat - 48)) 4294967296) = true := by
   simp only [Bool.and_eq_true,ble_iff,blt_iff]
   have:(10:Nat) ^ 9 = 1000000000 := by decide
   omega
  rw [digitsU,h3,cond_true,digitsU_dec l _ (k+1) hd.2 h1 (by omega)]
  rfl
def notDigit (x:Nat):Bool := decide ((x:Int) < 48) || decide ((x:Int) > 57)
def rDig:CRel | [.int _ x],r => r = .bool (decide (x < 48) || decide (x > 57)) | _,_ => False
theorem givesDig (x:Int):Gives prog (fun _ => none) 173 [.int .i32 x] (rDig [.int .i32 x]) := by
 refine gives (S := []) (by kernel_rfl) (by kernel_rfl) (callW_of ann173 func173 rfl (by kernel_rfl) ?_)
 by_cases h1:x < 48 <;> by_cases h2:x > 57 <;> simp [run_draw,tb,h1,h2] <;> first | exact outK_pure rfl (by simp [rDig,h1,h2]) | exact ⟨by decide +kernel,outK_pure rfl (by simp [rDig,h1,h2])⟩
theorem growsDig (w:World):PredGrows prog 173 #[] notDigit w := by
 intro W x hx hb
 obtain ⟨r,hr,h⟩ := givesDig (x:Int)
 have h := h.2 [.int .i32 x] _ (by simp [oneRow]; rfl) W (fun _ => False) [.int .i32 x] (fun _ h => h.elim) (fun g e h => by cases h) (.cons (.int _ _) .nil)
 refine h.mono ?_
 rintro e w' ⟨y,I',rfl,hB,_,_,hp⟩
 simp only [rDig] at hr
 subst hr
 cases hp
 exact ⟨rfl,hB⟩
theorem idx_digits (s:ByteArray) (hd:s.data.toList.all digB = true):∀ (f pos:Nat),Lib.idxFuncFrom notDigit true s f pos = -1
 | 0,_ => rfl
 | f+1,pos => by
  unfold Lib.idxFuncFrom
  split
  ·rename_i hp
   have hb:digB (s[pos]'hp) = true := by
    rw [List.all_eq_true] at hd
    refine hd _ ?_
    have:(s[pos]'hp) = s.data.toList[pos]'(by simpa using hp) := by simp; rfl
    rw [this]
    exact List.getElem_mem _
   simp only [digB,Bool.and_eq_true,ble_iff] at hb
   rw [decode_ascii s pos hp (by omega)]
   have:notDigit (s[pos]'hp).toNat = false := by
    simp only [notDigit,Bool.or_eq_false_iff,decide_eq_false_iff_not]
    omega
   simp only [this,Bool.false_eq_true,if_false]
   exact idx_digits s hd f _
  ·rfl
theorem intLib:IntLib G where
 cutp l hl := by
  refine sum_gives sum_cutPrefix (r := .tuple [.str (ba (unsigned l).1),.bool (unsigned l).2]) ?_ rfl
  simp only [cutPrefixF,ba_list,behind45]
  cases h:(unsigned l).2 with
  | true => rfl
  | false => simp only [Bool.false_eq_true,if_false,unsigned_no h]; rfl
 digf l hl hd := by
  refine gives_flat (enters_pi func97 (by kernel_rfl) (by decide)) (r := .bool false) (by simp [digfR,ba_list,hd]) fun w I xs _ hg ha => ?_
  obtain ⟨x,ys,rfl,h1,h2⟩ := ha.cons_inv
  obtain ⟨y,zs,rfl,h3,h4⟩ := h2.cons_inv
  cases h1
  rw [h4.nil_inv]
  obtain ⟨cs,rfl,hcs⟩:∃ cs:List Value,y = .func (.func 173) #[] cs.toArray ∧ cs = [] := by
   cases h3 with
   | func f cs xs hl h => exact ⟨xs,rfl,List.length_eq_zero_iff.1 hl⟩
  subst hcs
  refine (Any.strings_ContainsFunc_grows Tryz.layContainsFunc 173 #[] (enters_of func173 (by kernel_rfl) rfl) notDigit (ba l) w (growsDig w)).mono ?_
  rintro e w' ⟨rfl,hB⟩
  refine ⟨_,rfl,hB,fun w' I' => ?_⟩
  have:Lib.idxFunc notDigit true (ba l) = -1 := idx_digits (ba l) hd _ _
  rw [this]
  exact .bool _
 puint l hne hl hd := by
  refine sum_gives sum_parseUint (r := .tuple [.int .u64 (decVal l),.nilIface]) ?_ (by simp only [puintR,ba_list])
  simp only [parseUintF,ba_list]
  cases l with
  | nil => exact absurd rfl hne
  | cons b r =>
   have := digitsU_dec (b :: r) 0 0 hd (by decide) (by omega)
   simp only [small_ba (by omega:(b :: r).length ≤ 100000),cond_true,this]
   rfl
theorem readLib {m:Int} (hG:G 0 = some (.hole 1)) (hv:Hole.val 1 = .int .i64 m):ReadLib G where
 toIntLib := intLib
 cut l hl := by
  refine sum_gives (sum_cut hG hv) (r := .tuple [.str (ba (cutAt 47 l).1),.str (ba (cutAt 47 l).2.1),.bool (cutAt 47 l).2.2]) ?_ (by simp only [cutR,ba_list])
  simp only [cutF,ba_list,small_ba hl,cond_true,cut1_at]
  rfl
 trimp l hl := by
  refine sum_gives sum_trimPrefix (r := .str (ba (unsigned l).1)) ?_ (by simp only [trimpR,ba_list])
  simp only [trimPrefixF,ba_list,behind45]
  cases h:(unsigned l).2 with
  | true => rfl
  | false => simp only [Bool.false_eq_true,if_false,unsigned_no h]; rfl
 trim l cs hl hcs := by
  refine sum_gives sum_trim (r := .str (ba (trimU l cs))) ?_ (by simp only [strimR,ba_list])
  have h1:smallS (ba cs) = true ∧ cs.all (fun c => Nat.blt c.toNat 128) = true := by
   rcases hcs with rfl | rfl <;> exact ⟨by decide,by decide⟩
  simp only [trimF,ba_list,small_ba hl,h1.1,h1.2,Bool.and_self,cond_true]
  rfl
theorem flat_SS:∀ L:List (List UInt8),flat (SS L) = SS L
 | [] => rfl
 | a :: L => by
  have ih := flat_SS L
  unfold flat at ih ⊢
  show PV.cells (.str (ba a)) ++ (SS L).flatMap PV.cells = _
  rw [ih]; rfl
theorem SS_rep {w:World} {I:Nat → Prop} {L:List (List UInt8)} {x:Value} (h:PRep w I (.slice (SS L)) x):(L = [] ∧ ∃ a c,x = .slice a 0 c) ∨ ∃ b o cap,x = .slice (some ⟨b,o,none⟩) L.length cap ∧ L.length ≤ cap ∧ I b ∧ ∀ j,j < L.length → w.cell? ⟨b,o + j,none⟩ = some (.string (ba (L.getD j []))) := by
 generalize hE:SS L = E at h
 have hle:E.length = L.length := by rw [← hE,SS_len]
 have hfl:flat E = E := by rw [← hE]; exact flat_SS L
 cases h with
 | empty a c => exact .inl ⟨List.eq_nil_of_length_eq_zero (by rw [← hle]; rfl),a,c,rfl⟩
 | slice es sz b o cap xs h0 hu hI hc hx hl h =>
  refine .inr ⟨b,o,cap,by rw [hle],by omega,hI,fun j hj => ?_⟩
  have hv:(flat E)[j]? = some (.str (ba (L.getD j []))) := by
   rw [hfl,← hE,SS_get hj]; simp [List.getD,hj]
  have hj2:j < xs.length := by rw [hl,hfl,hle]; exact hj
  have := h j _ _ hv (List.getElem?_eq_getElem hj2)
  rw [hx j _ (List.getElem?_eq_getElem hj2)]
  generalize xs[j] = y at this
  cases this
  rfl
theorem xRepeat:Builder.Extra Tryz.prog Tryz.layRepeat_ren where
 sizeBuilder := by kernel_rfl
 liesBuilder := by kernel_rfl
 t5 := Tryz.underlying5
 a5 := Tryz.isAgg5
 z5 := Tryz.sizeOf5
 v5 := Tryz.zeroValue5
 infoByte := by kernel_rfl
 cellsByte := by kernel_rfl
 sizeByte := by kernel_rfl
 neB5 := by decide
theorem xJoin:Builder.Extra Tryz.prog Tryz.layJoin_ren where
 sizeBuilder := by kernel_rfl
 liesBuilder := by kernel_rfl
 t5 := Tryz.underlying5
 a5 := Tryz.isAgg5
 z5 := Tryz.sizeOf5
 v5 := Tryz.zeroValue5
 infoByte := by kernel_rfl
 cellsByte := by kernel_rfl
 sizeByte := by kernel_rfl
 neB5 := by decide
theorem textLib (hG:G 1 = some (.agg ((List.range 20).map fun k => .int .u64 (10 ^ k:Nat)))):TextLib G where
 itoa n h0 h1 := by
  refine gives_flat (enters_pi func112 (by kernel_rfl) (by decide)) (r := .str (ba (Lib.decDigits n.toNat))) (by simp only [itoaR,strR]) fun w I xs _ hg ha => ?_
  obtain ⟨x,ys,rfl,h2,h3⟩ := ha.cons_inv
  cases h2
  rw [h3.nil_inv]
  have htab : Lib.TabIs prog w "internal/strconv.uint64pow10" .u64 Lib.pow10Tab := by
   obtain ⟨_,zs,c1,c2,c3⟩ := hg 1 _ hG
   have hzl:zs.length = 20 := by rw [c2.1]; simp [PV.cells]
   have hz:∀ k,k < 20 → zs[k]? = some (.int .u64 ((10 ^ k:Nat):Int)) := fun k hk => by
    have := c2.2 k (.int .u64 ((10 ^ k:Nat):Int)) zs[k] (by simp [PV.cells,hk]) (List.getElem?_eq_getElem (by omega))
    rw [List.getElem?_eq_getElem (by omega)]
    generalize zs[k] = y at this
    cases this
    rfl
   have hc := c1 0 _ (hz 0 (by decide))
   unfold World.cell? at hc
   split at hc
   ·rename_i cs t z hh
    have hh:w.heap[1]? = some (.cells cs t z) := hh
    have hsz := c3 cs t z hh
    unfold Lib.TabIs World.var?
    rw [show prog.globalNamed "internal/strconv.uint64pow10" = some 1 by kernel_rfl]
    simp only [Option.bind_some,hh,Option.some.injEq]
    refine Array.ext (by rw [hsz,hzl]; simp [Lib.pow10Tab]) fun k k1 k2 => ?_
    have hk:k < 20 := by omega
    have := c1 k _ (hz k hk)
    unfold World.cell? at this
    simp only [hh,Option.isSome_none,Bool.false_eq_true,if_false,Nat.zero_add] at this
    rw [Array.getElem?_eq_getElem k1] at this
    rw [Option.some.inj this]
    simp [Lib.pow10Tab]
   ·cases hc
  refine (Any.strconv_Itoa Tryz.layItoa n (by omega) (by omega) w htab).mono ?_
  rintro e w' ⟨rfl,k,os,rfl⟩
  refine ⟨_,rfl,Lib.below_grow _ _ (Nat.le_refl _) _ _,fun w' I' => ?_⟩
  have:Lib.itoa n = Lib.decDigits n.toNat := by unfold Lib.itoa; rw [if_neg (by omega)]
  rw [this]
  exact .str _
 rep n hn := by
  refine gives_flat (enters_pi func113 (by kernel_rfl) (by decide)) (r := .str (ba (Lib.repeatL [48] n))) (by simp only [repeatR,strR,ba_list,Int.toNat_natCast]) fun w I xs _ hg ha => ?_
  obtain ⟨x,ys,rfl,h2,h3⟩ := ha.cons_inv
  obtain ⟨y,zs,rfl,h4,h5⟩ := h3.cons_inv
  cases h2; cases h4
  rw [h5.nil_inv]
  refine (Any.strings_Repeat Tryz.layRepeat xRepeat (ba [48]) n w (by omega) (by rw [ba_size]; simp; omega)).mono ?_
  rintro e w' ⟨rfl,hB⟩
  exact ⟨_,rfl,hB,fun w' I' => .str _⟩
 join L hl hs := by
  refine gives_flat (enters_pi func115 (by kernel_rfl) (by decide)) (r := .str (ba (Lib.join L []))) (by simp only [joinR,strR,ba_list,bytesOf_SS]) fun w I xs hI hg ha => ?_
  obtain ⟨x,ys,rfl,h2,h3⟩ := ha.cons_inv
  obtain ⟨y,zs,rfl,h4,h5⟩ := h3.cons_inv
  cases h4
  rw [h5.nil_inv]
  rcases SS_rep h2 with ⟨rfl,a,c,rfl⟩ | ⟨b,o,cap,rfl,hc,hb,hcell⟩
  ·refine (Any.strings_Join_none Tryz.layJoin xJoin a c (ba []) w).mono ?_
   rintro e w' ⟨rfl,rfl⟩
   exact ⟨_,rfl,Below.refl _ _,fun w' I' => .str _⟩
  ·have hx:∀ (j:Nat) x,(L.map ba)[j]? = some x → w.cell? ⟨b,o + j,none⟩ = some (.string x) := fun j x hj => by
    have hj2:j < L.length := by have := (List.getElem?_eq_some_iff.1 hj).1; simpa using this
    rw [hcell j hj2]
    simp only [List.getElem?_map,List.getElem?_eq_getElem hj2,Option.map_some,Option.some.injEq] at hj
    rw [← hj]
    simp [List.getD,hj2]
   have hm:(L.map ba).map (·.data.toList) = L := by rw [List.map_map]; exact List.map_id' L
   have hlen:(Lib.join L []).length ≤ 9 * L.length := by
    clear hx hm hcell hc h2 ha
    induction L with
    | nil => simp [Lib.join]
    | cons a L ih =>
     have h1 := hs a (by simp)
     have h2 := ih (by simp at hl; omega) fun l hl => hs l (by simp [hl])
     cases L with
     | nil => simp [Lib.join]; omega
     | cons c L => simp [Lib.join] at h2 ⊢; omega
   have := Any.strings_Join Tryz.layJoin xJoin b o cap (L.map ba) (ba []) w hx (hI b hb) (by simp; omega) (by simpa using hc) (by rw [hm,ba_list]; omega)
   rw [hm,ba_list,List.length_map] at this
   refine this.mono ?_
   rintro e w' ⟨rfl,hB⟩
   exact ⟨_,rfl,hB,fun w' I' => .str _⟩
theorem indexByte_lt:∀ (l:List UInt8) (c:UInt8),Lib.indexByte l c = -1 ∨ Lib.indexByte l c < l.length
 | [],_ => .inl rfl
 | b :: l,c => by
  unfold Lib.indexByte
  split
  ·exact .inr (by simp only [List.length_cons]; omega)
  ·split
   ·exact .inl rfl
   ·rename_i h1 h2
    rcases indexByte_lt l c with h | h
    ·exact absurd h (by simpa using h2)
    ·exact .inr (by simp only [List.length_cons]; omega)
theorem longLib:LongLib G where
 place l := by
  refine gives_flat (enters_pi func204 (by kernel_rfl) (by decide)) (r := .int .i64 (Lib.indexByte l 47)) ?_ fun w I xs hI hg ha => ?_
  ·refine ⟨_,rfl,Lib.indexByte_ge _ _,?_⟩
   rw [ba_size]
   rcases indexByte_lt l 47 with h | h
   ·rw [h]; omega
   ·exact h
  ·obtain ⟨x,ys,rfl,h2,h3⟩ := ha.cons_inv
   obtain ⟨y,zs,rfl,h4,h5⟩ := h3.cons_inv
   cases h2; cases h4
   rw [h5.nil_inv]
   have h := Any.stringslite_IndexByte (P := prog) (ρ := Tryz.layCut_ren) { Tryz.layCut with } (ba l) 47 w
   rw [ba_list] at h
   refine h.mono ?_
   rintro e w' ⟨rfl,rfl⟩
   exact ⟨_,rfl,Below.refl _ _,fun w' I' => .int _ _⟩
end Go.Proofs.Tryz
