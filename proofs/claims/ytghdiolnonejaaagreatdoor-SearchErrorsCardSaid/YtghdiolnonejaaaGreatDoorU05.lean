/-
 The texts Va, Num, Rb, Pcb, Ins, Lbp.
-/
import Derived.Test.YtghdiolnonejaaaGreatDoorS00
import Derived.Test.YtghdiolnonejaaaGreatDoorS02
import Derived.Test.YtghdiolnonejaaaGreatDoorU01
import Derived.Test.YtghdiolnonejaaaGreatDoorU02
import Derived.BigQuiet
import Derived.Deep.AppendLies
import Derived.Deep.DrawnRows
import Derived.Deep.Light
import Derived.Deep.LoopGhost
import Derived.Deep.QuietTactic
import Derived.Deep.RegionHeld3
import Derived.Deep.RegionLaw
import Derived.Deep.RegionWith
import Derived.Laws.AppendOwn
import Derived.Laws.MakeOwn
import Derived.Laws.OwnMore
import Derived.Laws.Rows
import Derived.Maps.AppendAt
import Derived.Shelf.Spec.SlicesGrow
import Derived.StillTailTactics
import Derived.Test.YtghdiolnonejaaaGreatDoorRows
import Derived.Test.YtghdiolnonejaaaGreatDoorShelf
import Derived.WalkKit
import Derived.WalkLawsBesides
import Derived.WalkSpells
set_option linter.unusedVariables false
set_option linter.unusedSimpArgs false
section
namespace Go.Proofs.YtghdiolnonejaaaGreatDoor
open Go Go.RowKit
theorem drop_at {xs:List Int} {k:Nat} (h:k < xs.length):xs.drop k = xs.getD k 0 :: xs.drop (k + 1) := by
 rw [List.drop_eq_getElem_cons h,List.getD_eq_getElem?_getD,List.getElem?_eq_getElem h]; rfl
set_option maxRecDepth 100000 in
set_option maxHeartbeats 4000000 in
theorem compare_any (xs ys:List Int) (A B:Option Addr) (n m c c2:Nat) (w:World) (hA:IntsAt w A n xs) (hB:IntsAt w B m ys) (hn:n ≤ 1000000) (hm:m ≤ 1000000) :
 Calls Tryz.prog 117 #[.slice A n c,.slice B m c2] w fun e w' => e = .returned (.int .i64 (Pl.lx xs ys)) ∧ w' = w := by
 have HA:=hide hA
 have HB:=hide hB
 have LA:=hide hA.len
 have LB:=hide hB.len
 clear hA hB
 go_enter Tryz.func117,Tryz.ntmps117
 go_wp2
 go_loopg [5,6,7,8,11] n (fun g s5 s6 s7 s8 i wx => ∃ k:Nat,k + g = n ∧ i = .int .i64 k ∧ k ≤ m ∧ Pl.lx xs ys = Pl.lx (xs.drop k) (ys.drop k) ∧ wx = w)
 case atStart => exact ⟨0,by omega,rfl,by omega,rfl,rfl⟩
 case round =>
  obtain ⟨k,hkg,rfl,hkm,hlx,rfl⟩:=hrel
  have HKG:=hide hkg
  have HLX:=hide hlx
  clear hlx
  by_cases hk:k < n
  ·have hki:(k:Int) < (n:Int):=by omega
   have k0:(0:Int) ≤ (k:Int):=by omega
   obtain ⟨b,o,rfl,x1⟩:=HA.out.at_ hk
   have e1:=drop_at (xs := xs) (k := k) (by rw [LA.out]; exact hk)
   obtain ⟨u,hu⟩:∃ u,u = xs.getD k 0 := ⟨_,rfl⟩
   rw [← hu] at x1 e1
   have E1:=hide e1
   clear hu hkg e1
   by_cases hk2:k < m
   ·have hk2i:(k:Int) < (m:Int):=by omega
    have hk2j:¬ ((m:Int) ≤ (k:Int)):=by omega
    obtain ⟨b2,o2,rfl,y1⟩:=HB.out.at_ hk2
    have e2:=drop_at (xs := ys) (k := k) (by rw [LB.out]; exact hk2)
    obtain ⟨v,hv⟩:∃ v,v = ys.getD k 0 := ⟨_,rfl⟩
    rw [← hv] at y1 e2
    have E2:=hide e2
    clear hv e2
    go_wp2_with fail
    refine (Tryz.cmp_Compare_int u v _).mono ?_
    rintro e w1 ⟨rfl,rfl⟩
    unfold Lib.compareInt
    have HL:=hide HLX.out
    rcases Int.lt_trichotomy u v with h | h | h
    ·have hne:¬ v < u:=by omega
     have HR:=hide (show Pl.lx xs ys = -1 by rw [HLX.out,E1.out,E2.out,Pl.lx,if_pos h])
     rw [if_pos h]
     clear h hne
     go_wp2
     go_ret
     exact ⟨by rw [HR.out]; rfl,rfl⟩
    ·have HR:=hide (show Pl.lx xs ys = Pl.lx (xs.drop (k + 1)) (ys.drop (k + 1)) by rw [HLX.out,E1.out,E2.out,Pl.lx,if_neg (by omega),if_neg (by omega)])
     rw [if_neg (show ¬ u < v by omega),if_neg (show ¬ v < u by omega)]
     clear h
     go_wp2
     go_roundg (gk - 1)
     case measure => have := HKG.out; omega
     case rel => exact ⟨k + 1,by have := HKG.out; omega,by go_num,by omega,HR.out,rfl⟩
    ·have hne:¬ u < v:=by omega
     have HR:=hide (show Pl.lx xs ys = 1 by rw [HLX.out,E1.out,E2.out,Pl.lx,if_neg hne,if_pos h])
     rw [if_neg hne,if_pos h]
     clear h hne
     go_wp2
     go_ret
     exact ⟨by rw [HR.out]; rfl,rfl⟩
   ·have hk2i:(m:Int) ≤ (k:Int):=by omega
    have HR:=hide (show Pl.lx xs ys = 1 by rw [HLX.out,E1.out,List.drop_eq_nil_of_le (show ys.length ≤ k by rw [LB.out]; omega)]; rfl)
    go_wp2
    go_ret
    exact ⟨by rw [HR.out]; rfl,rfl⟩
  ·have hki:¬ ((k:Int) < (n:Int)):=by omega
   have hkn:k = n:=by omega
   subst hkn
   clear hkg
   by_cases hnm:(k:Int) < (m:Int)
   ·have HR := hide (show Pl.lx xs ys = -1 by
     rw [HLX.out,List.drop_eq_nil_of_le (show xs.length ≤ k by rw [LA.out]; exact Nat.le_refl _),drop_at (xs := ys) (k := k) (by rw [LB.out]; omega)]; rfl)
    go_wp2
    go_ret
    exact ⟨by rw [HR.out]; rfl,rfl⟩
   ·have HR := hide (show Pl.lx xs ys = 0 by
     rw [HLX.out,List.drop_eq_nil_of_le (show xs.length ≤ k by rw [LA.out]; exact Nat.le_refl _),List.drop_eq_nil_of_le (show ys.length ≤ k by rw [LB.out]; omega)]; rfl)
    go_wp2
    go_ret
    exact ⟨by rw [HR.out]; rfl,rfl⟩
end Go.Proofs.YtghdiolnonejaaaGreatDoor
end
section
namespace Go.Proofs.YtghdiolnonejaaaGreatDoor.Pl
variable {d:Dg}
def nums (n:Nat) (o:List Nat):List Int := (List.range n).map (fun c => if c ∈ o then ((o.idxOf c:Nat):Int) else -1)
theorem nums_len (n:Nat) (o:List Nat):(nums n o).length = n := by unfold nums; simp
theorem nums_get {n c:Nat} (o:List Nat) (hc:c < n):(nums n o)[c]? = some (if c ∈ o then ((o.idxOf c:Nat):Int) else -1) := by
 unfold nums
 rw [List.getElem?_map,List.getElem?_range hc]
 rfl
theorem nums_nil (n:Nat):nums n [] = List.replicate n (-1) := by
 unfold nums
 refine List.ext_getElem? fun i => ?_
 rw [List.getElem?_map,List.getElem?_replicate]
 by_cases h:i < n
 ·rw [List.getElem?_range h,if_pos h]; simp
 ·rw [List.getElem?_eq_none (by simp; omega),if_neg h]; rfl
theorem nums_add {n b:Nat} {o:List Nat} (hb:b < n) (hn:b ∉ o):nums n (o ++ [b]) = (nums n o).set b (o.length:Int) := by
 refine List.ext_getElem? fun i => ?_
 rw [List.getElem?_set]
 by_cases hi:i < n
 ·rw [nums_get _ hi]
  by_cases e:b = i
  ·subst e
   have h1:b ∈ o ++ [b]:=by simp
   have h2:b < (nums n o).length:=by rw [nums_len]; exact hi
   rw [if_pos h1,if_pos rfl,if_pos h2,List.idxOf_append,if_neg hn]
   simp
  ·rw [if_neg e,nums_get _ hi]
   by_cases hm:i ∈ o
   ·rw [if_pos (by simp [hm]),if_pos hm,List.idxOf_append,if_pos hm]
   ·rw [if_neg (by simp [hm]; exact fun h => e h.symm),if_neg hm]
 ·have h1:(nums n (o ++ [b])).length ≤ i:=by rw [nums_len]; omega
  rw [List.getElem?_eq_none h1,if_neg (by omega),List.getElem?_eq_none (by rw [nums_len]; omega)]
theorem nums_one {n r:Nat} (hr:r < n):nums n [r] = (List.replicate n (-1)).set r 0 := by
 have:=nums_add (o := []) hr (by simp)
 rw [nums_nil] at this
 exact this
theorem flat5_at {o:List Nat}:∀ {l:List Nat} {i c:Nat},l[i]? = some c → ∀ j,j < 5 → (l.flatMap (chk d o))[5 * i + j]? = (chk d o c)[j]?
 | [],i,c,h,_,_ => by simp at h
 | x :: l, 0, c, h, j, hj => by
   obtain rfl:x = c := by simpa using h
   rw [List.flatMap_cons,Nat.mul_zero,Nat.zero_add,List.getElem?_append_left (by rw [chk_len]; exact hj)]
 | x :: l, i + 1, c, h, j, hj => by
   have ih:=flat5_at (o := o) (l := l) (i := i) (c := c) (by simpa using h) j hj
   rw [List.flatMap_cons,List.getElem?_append_right (by rw [chk_len]; omega),chk_len,← ih]
   congr 1
   omega
theorem code_sgn {r i c:Nat} (h:(ord d r)[i]? = some c):(code d r)[5 * i]? = some (d.s c) := by
 have:=flat5_at (d := d) (o := ord d r) h 0 (by omega)
 exact this
theorem code_nb {r i c s:Nat} (h:(ord d r)[i]? = some c) (hs:s < 4):(code d r)[5 * i + 1 + s]? = some (((4 * (ord d r).idxOf (nb d c s) + d.m (4 * c + s) % 4:Nat)):Int) := by
 have:=flat5_at (d := d) (o := ord d r) h (1 + s) (by omega)
 rw [Nat.add_assoc]
 refine this.trans ?_
 have h4:s = 0 ∨ s = 1 ∨ s = 2 ∨ s = 3:=by omega
 rcases h4 with rfl | rfl | rfl | rfl <;> rfl
theorem take_one {α:Type} {l:List α} {k:Nat} {x:α} (h:l[k]? = some x):l.take (k + 1) = l.take k ++ [x] := by
 rw [List.take_add_one,h]; rfl
def vdt (best:Option (List Int)) (c:List Int) (k:Nat):Int := match best with
 | none => -1
 | some b => lx (c.take k) (b.take k)
theorem vdt_step {b c:List Int} {k:Nat} (hc:k + 5 ≤ c.length) (hb:k + 5 ≤ b.length):vdt (some b) c (k + 5) = if vdt (some b) c k = 0 then lx ((c.drop k).take 5) ((b.drop k).take 5) else vdt (some b) c k := by
 unfold vdt
 simp only
 rw [List.take_add,List.take_add]
 exact lx_app (by rw [List.length_take,List.length_take]; omega) _ _
theorem vdt_keep {b c:List Int} {k:Nat} (hl:c.length = b.length) (h:vdt (some b) c k ≠ 0):lx c b = vdt (some b) c k := by
 unfold vdt at h ⊢
 simp only at h ⊢
 have:=lx_app (l := c.take k) (m := b.take k) (by rw [List.length_take,List.length_take,hl]) (c.drop k) (b.drop k)
 rw [List.take_append_drop,List.take_append_drop,if_neg h] at this
 exact this
def vall (best:Option (List Int)) (c:List Int):Int := match best with | none => -1 | some b => lx c b
theorem vall_some (b c:List Int):vall (some b) c = lx c b := rfl
theorem vall_none (c:List Int):vall none c = -1 := rfl
theorem vdt_all {best:Option (List Int)} {c:List Int} {k:Nat} (hk:c.length ≤ k) (hb:∀ b,best = some b → b.length ≤ k):vdt best c k = vall best c := by
 unfold vdt vall
 cases best with
 | none => rfl
 | some b => simp only; rw [List.take_of_length_le hk,List.take_of_length_le (hb b rfl)]
theorem pre_get {o o':List Nat} (h:o <+: o') {i c:Nat} (hc:o[i]? = some c):o'[i]? = some c := by
 obtain ⟨l,rfl⟩:=h
 rw [List.getElem?_append_left (List.getElem?_eq_some_iff.1 hc).1,hc]
theorem add_ord {r i c s:Nat} (hi:i + 1 ≤ d.n) (hc:(ordK d r i)[i]? = some c) (hs:s ≤ 4):addS d (ordK d r i) c s <+: ord d r := by
 have h1:=addS_mono (d := d) (ordK d r i) c s (4 - s)
 rw [show s + (4 - s) = 4 by omega,← ordK_some hc] at h1
 exact h1.trans (ordK_ord r hi)
theorem code_step {r i c s:Nat} (hi:i + 1 ≤ d.n) (hc:(ordK d r i)[i]? = some c) (hs:s < 4):(code d r)[5 * i + 1 + s]? = some (((4 * (addS d (ordK d r i) c (s + 1)).idxOf (nb d c s) + d.m (4 * c + s) % 4:Nat)):Int) := by
 rw [code_nb (pre_get (ordK_ord r (by omega)) hc) hs,idx_pre (add_ord (s := s + 1) hi hc (by omega)) (addN_mem (addS d (ordK d r i) c s) (nb d c s))]
theorem order_lt {r i:Nat} (hi:i ≤ d.n) (h:i < (ord d r).length):i < (ordK d r i).length := by
 rcases Nat.lt_or_ge i (ordK d r i).length with h1 | h1
 ·exact h1
 ·rw [ord_eq hi h1] at h1; omega
end Go.Proofs.YtghdiolnonejaaaGreatDoor.Pl
end
section
namespace Go.Proofs.YtghdiolnonejaaaGreatDoor
open Go Go.RowKit
theorem Row.drewN {w:World} {g:Nat} {t:TypeId} {vs:List Value} (h:Row w g t vs) (n:Nat):Row (w.drewN n) g t vs := h
theorem Below.drewN' {k:Nat} {w w':World} (h:Below k w w') (n:Nat):Below k w (w'.drewN n) := ⟨h.os,h.tape,h.output,h.size,h.block⟩
end Go.Proofs.YtghdiolnonejaaaGreatDoor
end
section
namespace Go.Proofs.YtghdiolnonejaaaGreatDoor.Pl
variable {d:Dg}
theorem ord_len_eq (hd:Wf d) {r q:Nat} (hr:r < d.n) (hq:q < d.n) (h:Comp d r q):(ord d r).length = (ord d q).length := by
 refine List.Perm.length_eq ((List.perm_ext_iff_of_nodup (ord_ok hd hr).nd (ord_ok hd hq).nd).2 fun x => ?_)
 rw [ord_mem hd hr,ord_mem hd hq]
 exact ⟨fun e => (comp_symm hd hr h).trans e,fun e => h.trans e⟩
theorem code_len_eq (hd:Wf d) {r q:Nat} (hr:r < d.n) (hq:q < d.n) (h:Comp d r q):(code d r).length = (code d q).length := by
 rw [code_len,code_len,ord_len_eq hd hr hq h]
structure Lst5 (d:Dg) (l:List Nat) (p:Pc):Prop where
 is:∃ r,r ∈ l ∧ p.code = code d r ∧ p.order = ord d r
 min:∀ q,q ∈ l → lx p.code (code d q) ≤ 0
theorem Lst5.one (r:Nat) (x:Int):Lst5 d [r] ⟨code d r,ord d r,x⟩:=by
 refine ⟨⟨r,by simp,rfl,rfl⟩,fun q hq => ?_⟩
 obtain rfl:q = r := by simpa using hq
 have:=lx_self (code d q)
 show lx (code d q) (code d q) ≤ 0
 omega
theorem Lst5.less {l:List Nat} {p:Pc} (h:Lst5 d l p) {q:Nat} (hq:lx (code d q) p.code < 0) (x:Int):Lst5 d (l ++ [q]) ⟨code d q,ord d q,x⟩:=by
 refine ⟨⟨q,by simp,rfl,rfl⟩,fun y hy => ?_⟩
 rcases List.mem_append.1 hy with hy | hy
 ·exact lx_trans (l := code d q) (m := p.code) (by omega) (h.min y hy)
 ·obtain rfl:y = q := by simpa using hy
  have:=lx_self (code d y)
  show lx (code d y) (code d y) ≤ 0
  omega
theorem Lst5.more {l:List Nat} {p:Pc} (h:Lst5 d l p) {q:Nat} (hq:¬ lx (code d q) p.code < 0) (x:Int):Lst5 d (l ++ [q]) ⟨p.code,p.order,x⟩:=by
 obtain ⟨r,h1,h2,h3⟩:=h.is
 refine ⟨⟨r,by simp [h1],h2,h3⟩,fun y hy => ?_⟩
 rcases List.mem_append.1 hy with hy | hy
 ·exact h.min y hy
 ·obtain rfl:y = q := by simpa using hy
  show lx p.code (code d y) ≤ 0
  rw [lx_neg]
  omega
theorem Lst5.ok (hd:Wf d) {l:List Nat} {p:Pc} {r:Nat} (h:Lst5 d l p) (hr:r < d.n) (hl:∀ c,c ∈ l ↔ c < d.n ∧ Comp d r c):PcOk d p := by
 obtain ⟨q,h1,h2,h3⟩:=h.is
 obtain ⟨hq,hc⟩:=(hl q).1 h1
 refine ⟨q,hq,h2,h3,fun y hy => ?_⟩
 rw [← h2]
 have hyn:y < d.n:=((ord_ok hd hq).mem y ((ord_mem hd hq y).2 hy)).1
 exact h.min y ((hl y).2 ⟨hyn,hc.trans hy⟩)
end Go.Proofs.YtghdiolnonejaaaGreatDoor.Pl
end
section
namespace Go.Proofs.YtghdiolnonejaaaGreatDoor.Pl
def leP (p q:Pc):Prop := kle p.code q.code
theorem leP_trans {p q r:Pc} (h:leP p q) (h':leP q r):leP p r := kle_trans h h'
theorem leP_total (p q:Pc):leP p q ∨ leP q p := kle_total _ _
structure Ins (qs ps:List Pc) (i j:Nat):Prop where
 ex:∃ (pre:List Pc) (x:Pc) (mid suf:List Pc),ps = pre ++ x :: (mid ++ suf) ∧ pre.length = j ∧ pre.length + mid.length = i ∧ (pre ++ mid).Pairwise leP ∧ ∀ m,m ∈ mid → leP x m
 perm:ps.Perm qs
theorem Ins.start {qs ps:List Pc} {i:Nat} (hp:ps.Perm qs) (hs:(ps.take i).Pairwise leP) (hi:i < ps.length):Ins qs ps i i := by
 refine ⟨⟨ps.take i,ps[i],[],ps.drop (i + 1),?_,by rw [List.length_take]; omega,by rw [List.length_take]; simp; omega,by simpa using hs,fun m h => by simp at h⟩,hp⟩
 rw [List.nil_append,← List.drop_eq_getElem_cons hi,List.take_append_drop]
theorem snoc_of {l:List Pc} {j:Nat} (h:l.length = j + 1):∃ (l':List Pc) (y:Pc),l = l' ++ [y] ∧ l'.length = j := by
 have hne:l ≠ []:=by intro e; rw [e] at h; simp at h
 refine ⟨l.dropLast,l.getLast hne,(List.dropLast_concat_getLast hne).symm,by rw [List.length_dropLast]; omega⟩
theorem get_mid {a:List Pc} {x:Pc} {b:List Pc} {j:Nat} (h:a.length = j):(a ++ x :: b)[j]? = some x := by
 subst h
 rw [List.getElem?_append_right (Nat.le_refl _),Nat.sub_self]; rfl
theorem Ins.step {qs ps:List Pc} {i j:Nat} (h:Ins qs ps i (j + 1)) {x y:Pc} (hx:ps[j + 1]? = some x) (hy:ps[j]? = some y) (hn:¬ leP y x):Ins qs ((ps.set (j + 1) y).set j x) i j := by
 obtain ⟨pre,x',mid,suf,e,h1,h2,h3,h4⟩:=h.ex
 obtain ⟨l,y',rfl,hl⟩:=snoc_of h1
 rw [e,get_mid h1] at hx
 injection hx with hx
 subst hx
 have e2:l ++ [y'] ++ x' :: (mid ++ suf) = l ++ y' :: x' :: (mid ++ suf):=by simp
 rw [e,e2,get_mid hl] at hy
 injection hy with hy
 subst hy
 have e3:(ps.set (j + 1) y').set j x' = l ++ x' :: (y' :: mid ++ suf):=by
  rw [e,e2,List.set_append_right _ _ (by omega),List.set_append_right _ _ (by omega),hl,show j + 1 - j = 1 by omega,Nat.sub_self]
  rfl
 have hle:leP x' y':=(leP_total x' y').resolve_right hn
 refine ⟨⟨l,x',y' :: mid,suf,e3,hl,by simp at h2 ⊢; omega,by simpa using h3,fun m hm => ?_⟩,?_⟩
 ·rcases List.mem_cons.1 hm with rfl | hm
  ·exact hle
  ·exact h4 m hm
 ·rw [e3]
  refine List.Perm.trans ?_ h.perm
  rw [e,e2]
  exact List.Perm.append_left _ (List.Perm.swap _ _ _)
theorem Ins.stop {qs ps:List Pc} {i j:Nat} (h:Ins qs ps i j) (hs:j = 0 ∨ ∃ x y,ps[j]? = some x ∧ ps[j - 1]? = some y ∧ leP y x):(ps.take (i + 1)).Pairwise leP := by
 obtain ⟨pre,x,mid,suf,e,h1,h2,h3,h4⟩:=h.ex
 have ht:ps.take (i + 1) = pre ++ x :: mid:=by
  have e2:pre ++ x :: (mid ++ suf) = (pre ++ x :: mid) ++ suf:=by simp
  rw [e,e2,List.take_append_of_le_length (by simp; omega),List.take_of_length_le (by simp; omega)]
 have hpre:∀ a,a ∈ pre → leP a x:=by
  intro a ha
  rcases hs with h0 | ⟨x',y,hx,hy,hle⟩
  ·rw [h0] at h1
   rw [List.eq_nil_of_length_eq_zero h1] at ha
   simp at ha
  ·rw [e,get_mid h1] at hx
   injection hx with hx
   subst hx
   cases j with
   | zero => rw [List.eq_nil_of_length_eq_zero h1] at ha; simp at ha
   | succ j =>
     obtain ⟨l,y',rfl,hl⟩:=snoc_of h1
     have e2:l ++ [y'] ++ x :: (mid ++ suf) = l ++ y' :: x :: (mid ++ suf):=by simp
     rw [e,e2,show j + 1 - 1 = j by omega,get_mid hl] at hy
     injection hy with hy
     subst hy
     rcases List.mem_append.1 ha with ha | ha
     ·have h5:(l ++ y' :: mid).Pairwise leP:=by simpa using h3
      exact leP_trans ((List.pairwise_append.1 h5).2.2 a ha y' (by simp)) hle
     ·obtain rfl:a = y' := by simpa using ha
      exact hle
 rw [ht]
 have h6:=List.pairwise_append.1 h3
 refine List.pairwise_append.2 ⟨h6.1,List.pairwise_cons.2 ⟨h4,h6.2.1⟩,fun a ha b hb => ?_⟩
 rcases List.mem_cons.1 hb with rfl | hb
 ·exact hpre a ha
 ·exact h6.2.2 a ha b hb
end Go.Proofs.YtghdiolnonejaaaGreatDoor.Pl
end
section
namespace Go.Proofs.YtghdiolnonejaaaGreatDoor.Pl
variable {d:Dg}
def lstep (d:Dg) (ps:List Int) (h:Nat):List Int := (ps.set (h / 4) (min (pv ps (h / 4)) (pv ps (d.m h / 4)))).set (d.m h / 4) (min (pv ps (h / 4)) (pv ps (d.m h / 4)))
def lrun (d:Dg) (ps:List Int):Nat → List Int
 | 0 => ps
 | h + 1 => lstep d (lrun d ps h) h
def lpass (d:Dg):Nat → List Int
 | 0 => ids d.n d.n
 | p + 1 => lrun d (lpass d p) (4 * d.n)
theorem lstep_pv (hd:Wf d) {ps:List Int} (hl:ps.length = d.n) {h c:Nat} (hh:h < 4 * d.n):pv (lstep d ps h) c = if c = h / 4 ∨ c = d.m h / 4 then min (pv ps (h / 4)) (pv ps (d.m h / 4)) else pv ps c := by
 have hm:=hd.lt h hh
 unfold lstep
 rw [pv_set (by rw [List.length_set]; omega),pv_set (by omega)]
 by_cases e1:c = d.m h / 4
 ·rw [if_pos e1,if_pos (.inr e1)]
 ·rw [if_neg e1]
  by_cases e2:c = h / 4
  ·rw [if_pos e2,if_pos (.inl e2)]
  ·rw [if_neg e2,if_neg (fun e => e.elim e2 e1)]
theorem comp_sym (hd:Wf d) {a b:Nat} (ha:a < d.n) (e:Comp d a b):Comp d b a := hd.hm.con_symm (by unfold dart; omega) e
theorem PI.lstep (hd:Wf d) {ps:List Int} (h:PI d ps) {x:Nat} (hx:x < 4 * d.n):PI d (lstep d ps x) ∧ (∀ c,c < d.n → pv (Pl.lstep d ps x) c ≤ pv ps c) ∧ pv (Pl.lstep d ps x) (d.m x / 4) ≤ pv ps (x / 4) := by
 have hm:=hd.lt x hx
 have cm:=comp_m hd hx
 have cm':=comp_sym hd (show x / 4 < d.n by omega) cm
 refine ⟨⟨by unfold Pl.lstep; rw [List.length_set,List.length_set]; exact h.len,fun c hc => ?_⟩,fun c hc => ?_,?_⟩
 ·rw [lstep_pv hd h.len hx]
  by_cases e:c = x / 4 ∨ c = d.m x / 4
  ·rw [if_pos e]
   obtain ⟨b,e1,e2,e3⟩:=h.is (x / 4) (by omega)
   obtain ⟨b',f1,f2,f3⟩:=h.is (d.m x / 4) (by omega)
   rcases Int.le_total (pv ps (x / 4)) (pv ps (d.m x / 4)) with g | g
   ·rw [Int.min_eq_left g]
    refine ⟨b,e1,?_,?_⟩
    ·rcases e with e | e <;> omega
    ·rcases e with e | e
     ·rw [e]; exact e3
     ·rw [e]; exact cm'.trans e3
   ·rw [Int.min_eq_right g]
    refine ⟨b',f1,?_,?_⟩
    ·rcases e with e | e <;> omega
    ·rcases e with e | e
     ·rw [e]; exact cm.trans f3
     ·rw [e]; exact f3
  ·rw [if_neg e]; exact h.is c hc
 ·rw [lstep_pv hd h.len hx]
  by_cases e:c = x / 4 ∨ c = d.m x / 4
  ·rw [if_pos e]
   rcases e with e | e
   ·rw [e]; exact Int.min_le_left _ _
   ·rw [e]; exact Int.min_le_right _ _
  ·rw [if_neg e]; exact Int.le_refl _
 ·rw [lstep_pv hd h.len hx,if_pos (.inr rfl)]
  exact Int.min_le_left _ _
def Gd (d:Dg) (ps:List Int) (c:Nat):Prop := ∀ b,b < d.n → Comp d c b → pv ps c ≤ (b:Int)
theorem PI.lrun (hd:Wf d) {ps:List Int} (h:PI d ps):∀ k,k ≤ 4 * d.n → PI d (lrun d ps k) ∧ (∀ c,c < d.n → pv (Pl.lrun d ps k) c ≤ pv ps c) ∧ (∀ x,x < k → Gd d ps (x / 4) → Gd d (Pl.lrun d ps k) (d.m x / 4))
 | 0,_ => ⟨h,fun c hc => Int.le_refl _,fun x hx => absurd hx (by omega)⟩
 | k + 1, hk => by
   obtain ⟨h1,h2,h3⟩:=PI.lrun hd h k (by omega)
   obtain ⟨g1,g2,g3⟩:=h1.lstep hd (x := k) (by omega)
   refine ⟨g1,fun c hc => Int.le_trans (g2 c hc) (h2 c hc),fun x hx hg => ?_⟩
   have hx4:x < 4 * d.n:=by omega
   have hmx:=hd.lt x hx4
   by_cases e:x = k
   ·subst e
    intro b hb hc
    have a1:=hg b hb ((comp_m hd hx4).trans hc)
    have a2:=h2 (x / 4) (by omega)
    exact Int.le_trans g3 (Int.le_trans a2 a1)
   ·intro b hb hc
    have a1:=h3 x (by omega) hg b hb hc
    exact Int.le_trans (g2 _ (by omega)) a1
theorem PI.lpass (hd:Wf d):∀ p,PI d (lpass d p)
 | 0 => PI.start d
 | p + 1 => (PI.lrun hd (PI.lpass hd p) _ (Nat.le_refl _)).1
theorem cnt_all {p:Nat → Prop}:∀ N,cnt p N = N → ∀ x,x < N → p x
 | 0,_,x,hx => absurd hx (by omega)
 | N + 1, h, x, hx => by
   have t:=cnt_top p N
   by_cases e:p N
   ·rw [cnt_step_pos e] at h
    by_cases e2:x = N
    ·rw [e2]; exact e
    ·exact cnt_all N (by omega) x (by omega)
   ·rw [cnt_step_neg e] at h; omega
theorem cnt_imp {p q:Nat → Prop}:∀ N,(∀ x,x < N → p x → q x) → cnt p N ≤ cnt q N
 | 0,_ => Nat.le_refl _
 | N + 1, h => by
   have a:=cnt_imp N (fun x hx => h x (by omega))
   by_cases e:p N
   ·rw [cnt_step_pos e,cnt_step_pos (h N (by omega) e)]; omega
   ·rw [cnt_step_neg e]
    have:=cnt_mono q (Nat.le_succ N)
    exact Nat.le_trans a this
theorem cnt_imp_lt {p q:Nat → Prop}:∀ N,(∀ x,x < N → p x → q x) → ∀ y,y < N → ¬ p y → q y → cnt p N < cnt q N
 | 0,_,y,hy,_,_ => absurd hy (by omega)
 | N + 1, h, y, hy, h1, h2 => by
   by_cases e:y = N
   ·subst e
    rw [cnt_step_neg h1,cnt_step_pos h2]
    have:=cnt_imp y (fun x hx => h x (by omega))
    omega
   ·have a:=cnt_imp_lt N (fun x hx => h x (by omega)) y (by omega) h1 h2
    by_cases e:p N
    ·rw [cnt_step_pos e,cnt_step_pos (h N (by omega) e)]; omega
    ·rw [cnt_step_neg e]
     have:=cnt_mono q (Nat.le_succ N)
     exact Nat.lt_of_lt_of_le a this
theorem comp_least {c:Nat} (hc:c < d.n):∃ r,r < d.n ∧ Comp d c r ∧ ∀ b,b < d.n → Comp d c b → r ≤ b := by
 have:∀ k c',c' < k → c' < d.n → Comp d c c' → ∃ r,r < d.n ∧ Comp d c r ∧ ∀ b,b < d.n → Comp d c b → r ≤ b:=by
  intro k
  induction k with
  | zero => intro c' h; omega
  | succ k ih =>
    intro c' h1 h2 h3
    rcases Classical.em (∃ b,b < c' ∧ b < d.n ∧ Comp d c b) with ⟨b,e1,e2,e3⟩ | e
    ·exact ih b (by omega) e2 e3
    ·exact ⟨c',h2,h3,fun b hb hcb => Classical.byContradiction fun q => e ⟨b,by omega,hb,hcb⟩⟩
 exact this (c + 1) c (by omega) hc .refl
theorem Gd.closed (hd:Wf d) {ps:List Int} (h:PI d ps) (hcl:∀ x,x < 4 * d.n → Gd d ps (x / 4) → Gd d ps (d.m x / 4)):∀ c,c < d.n → Gd d ps c := by
 intro c hc
 obtain ⟨r,r1,r2,r3⟩:=comp_least hc
 have gr:Gd d ps r:=fun b hb hcb => by
  have a:=(h.nat r1).2
  have b':=r3 b hb (r2.trans hcb)
  omega
 have:=con_sub hd.hm (R := fun x y => Gd d ps (x / 4) ↔ Gd d ps (y / 4)) ⟨fun _ _ => Iff.rfl,fun _ _ _ _ e => e.symm,fun _ _ _ _ _ _ e e' => e.trans e'⟩
  (fun x _ => by show Gd d ps (x / 4) ↔ Gd d ps (rot x / 4); unfold rot; rw [tn_div]) (fun x hx => ⟨hcl x hx, fun g => by
    have:=hcl (d.m x) (hd.lt x hx) g
    rwa [hd.inv x hx] at this⟩) (x := 4 * r) (y := 4 * c) (by unfold dart; omega) (comp_sym hd hc r2)
 simp only [Nat.mul_div_cancel_left _ (show 0 < 4 by omega)] at this
 exact this.1 gr
theorem Gd.count (hd:Wf d):∀ p,p ≤ d.n → p ≤ cnt (Gd d (lpass d p)) d.n ∨ ∀ c,c < d.n → Gd d (lpass d p) c
 | 0,_ => .inl (Nat.zero_le _)
 | p + 1, hp => by
   have h:=PI.lpass hd p
   obtain ⟨h1,h2,h3⟩:=h.lrun hd (4 * d.n) (Nat.le_refl _)
   have hk:∀ c,c < d.n → Gd d (lpass d p) c → Gd d (lpass d (p + 1)) c:=fun c hc g b hb hcb => Int.le_trans (h2 c hc) (g b hb hcb)
   rcases Gd.count hd p (by omega) with a | a
   ·rcases Classical.em (∀ x,x < 4 * d.n → Gd d (lpass d p) (x / 4) → Gd d (lpass d p) (d.m x / 4)) with e | e
    ·exact .inr fun c hc => hk c hc (Gd.closed hd h e c hc)
    ·have:∃ x,x < 4 * d.n ∧ Gd d (lpass d p) (x / 4) ∧ ¬ Gd d (lpass d p) (d.m x / 4):=Classical.byContradiction fun q => e fun x hx g => Classical.byContradiction fun q' => q ⟨x,hx,g,q'⟩
     obtain ⟨x,x1,x2,x3⟩:=this
     have hm:=hd.lt x x1
     have:=cnt_imp_lt (p := Gd d (lpass d p)) (q := Gd d (lpass d (p + 1))) d.n hk (d.m x / 4) (by omega) x3 (h3 x x1 x2)
     exact .inl (by omega)
   ·exact .inr fun c hc => hk c hc (a c hc)
theorem lpass_done (hd:Wf d):PB d (lpass d d.n) := by
 have h:=PI.lpass hd d.n
 have hg:∀ c,c < d.n → Gd d (lpass d d.n) c:=by
  rcases Gd.count hd d.n (Nat.le_refl _) with a | a
  ·exact cnt_all d.n (Nat.le_antisymm (cnt_top _ _) a)
  ·exact a
 refine h.done hd fun x hx => ?_
 have hm:=hd.lt x hx
 obtain ⟨b,e1,e2,e3⟩:=h.is (d.m x / 4) (by omega)
 have:=hg (x / 4) (by omega) b (by omega) ((comp_m hd hx).trans e3)
 omega
end Go.Proofs.YtghdiolnonejaaaGreatDoor.Pl
end
