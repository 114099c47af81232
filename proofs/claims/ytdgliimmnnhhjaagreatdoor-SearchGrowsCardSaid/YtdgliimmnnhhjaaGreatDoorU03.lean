/-
  The texts Pcb, Vh, Ins, Vm, Pex, Lbp, Lbq, Li, Rnm, Jx, Open, Xn, Xz.
-/
import Derived.Test.YtdgliimmnnhhjaaGreatDoorU02
import Derived.Deep.CutBlock
import Derived.Deep.DeepCutAuto
import Derived.Deep.Fields
import Derived.Deep.Strs
import Derived.OpenShut
import Derived.ProofKit
set_option linter.unusedVariables false
set_option linter.unusedSimpArgs false
section
namespace Go.Proofs.YtdgliimmnnhhjaaGreatDoor.Pl
variable {d:Dg}
theorem ord_len_eq (hd:Wf d){r q:Nat}(hr:r<d.n)(hq:q<d.n)(h:Comp d r q):(ord d r).length=(ord d q).length:=by
 refine List.Perm.length_eq ((List.perm_ext_iff_of_nodup (ord_ok hd hr).nd (ord_ok hd hq).nd).2 fun x=>?_)
 rw [ord_mem hd hr,ord_mem hd hq]
 exact ⟨fun e=>(comp_symm hd hr h).trans e,fun e=>h.trans e⟩
theorem code_len_eq (hd:Wf d){r q:Nat}(hr:r<d.n)(hq:q<d.n)(h:Comp d r q):(code d r).length=(code d q).length:=by
 rw [code_len,code_len,ord_len_eq hd hr hq h]
structure Lst5 (d:Dg) (l:List Nat) (p:Pc):Prop where
 is:∃r,r ∈ l∧p.code=code d r∧p.order=ord d r
 min:∀q,q ∈ l→lx p.code (code d q)≤0
theorem Lst5.one (r:Nat)(x:Int):Lst5 d [r] ⟨code d r,ord d r,x⟩:=by
 refine ⟨⟨r,by simp,rfl,rfl⟩,fun q hq=>?_⟩
 obtain rfl:q=r:=by simpa using hq
 have:=lx_self (code d q)
 show lx (code d q) (code d q)≤0
 omega
theorem Lst5.less {l:List Nat}{p:Pc}(h:Lst5 d l p){q:Nat}(hq:lx (code d q) p.code<0)(x:Int):Lst5 d (l++[q]) ⟨code d q,ord d q,x⟩:=by
 refine ⟨⟨q,by simp,rfl,rfl⟩,fun y hy=>?_⟩
 rcases List.mem_append.1 hy with hy | hy
 ·exact lx_trans (l:=code d q) (m:=p.code) (by omega) (h.min y hy)
 ·obtain rfl:y=q:=by simpa using hy
  have:=lx_self (code d y)
  show lx (code d y) (code d y)≤0
  omega
theorem Lst5.more {l:List Nat}{p:Pc}(h:Lst5 d l p){q:Nat}(hq:¬lx (code d q) p.code<0)(x:Int):Lst5 d (l++[q]) ⟨p.code,p.order,x⟩:=by
 obtain ⟨r,h1,h2,h3⟩:=h.is
 refine ⟨⟨r,by simp [h1],h2,h3⟩,fun y hy=>?_⟩
 rcases List.mem_append.1 hy with hy | hy
 ·exact h.min y hy
 ·obtain rfl:y=q:=by simpa using hy
  show lx p.code (code d y)≤0
  rw [lx_neg]
  omega
theorem Lst5.ok (hd:Wf d){l:List Nat}{p:Pc}{r:Nat}(h:Lst5 d l p)(hr:r<d.n)(hl:∀c,c ∈ l↔c<d.n∧Comp d r c):PcOk d p:=by
 obtain ⟨q,h1,h2,h3⟩:=h.is
 obtain ⟨hq,hc⟩:=(hl q).1 h1
 refine ⟨q,hq,h2,h3,fun y hy=>?_⟩
 rw [←h2]
 have hyn:y<d.n:=((ord_ok hd hq).mem y ((ord_mem hd hq y).2 hy)).1
 exact h.min y ((hl y).2 ⟨hyn,hc.trans hy⟩)
end Go.Proofs.YtdgliimmnnhhjaaGreatDoor.Pl
end
section
namespace Go.Proofs.YtdgliimmnnhhjaaGreatDoor
open Go Go.RowKit
attribute [local go_sem ↓] Go.wp_at_zero Go.wp_at_succ
theorem pieceInfo:(Tryz.prog.info? 64).map (fun i=>(i.zero,i.size,i.bytes))=some (some (.agg #[.slice none 0 0,.slice none 0 0,.int .i64 0]),3,56):=by kernel_rfl
theorem three_news (W:World)(g:Nat)(h:g=W.heap.size)(a b c:Value):∀(j:Nat) (u:Value),[a,b,c][j]? = some u→(W.alloc (.cells #[a,b,c] 64)).cell? ((⟨g,0,none⟩:Addr).add j)=some u:=by
 subst h
 exact World.news_of_block (cs:=#[a,b,c]) (t:=64) (fr:=(0,0)) (heap_alloc_new W _)
end Go.Proofs.YtdgliimmnnhhjaaGreatDoor
end
section
namespace Go.Proofs.YtdgliimmnnhhjaaGreatDoor.Pl
def leP (p q:Pc):Prop:=kle p.code q.code
theorem leP_trans {p q r:Pc}(h:leP p q)(h':leP q r):leP p r:=kle_trans h h'
theorem leP_total (p q:Pc):leP p q∨leP q p:=kle_total _ _
structure Ins (qs ps:List Pc) (i j:Nat):Prop where
 ex:∃(pre:List Pc) (x:Pc) (mid suf:List Pc),ps=pre++x :: (mid++suf)∧pre.length=j∧pre.length+mid.length=i∧(pre++mid).Pairwise leP∧∀m,m ∈ mid→leP x m
 perm:ps.Perm qs
theorem Ins.start {qs ps:List Pc}{i:Nat}(hp:ps.Perm qs)(hs:(ps.take i).Pairwise leP)(hi:i<ps.length):Ins qs ps i i:=by
 refine ⟨⟨ps.take i,ps[i],[],ps.drop (i+1),?_,by rw [List.length_take];omega,by rw [List.length_take];simp;omega,by simpa using hs,fun m h=>by simp at h⟩,hp⟩
 rw [List.nil_append,←List.drop_eq_getElem_cons hi,List.take_append_drop]
theorem snoc_of {l:List Pc}{j:Nat}(h:l.length=j+1):∃(l':List Pc) (y:Pc),l=l'++[y]∧l'.length=j:=by
 have hne:l≠[]:=by intro e;rw [e] at h;simp at h
 refine ⟨l.dropLast,l.getLast hne,(List.dropLast_concat_getLast hne).symm,by rw [List.length_dropLast];omega⟩
theorem get_mid {a:List Pc}{x:Pc}{b:List Pc}{j:Nat}(h:a.length=j):(a++x :: b)[j]? = some x:=by
 subst h
 rw [List.getElem?_append_right (Nat.le_refl _),Nat.sub_self];rfl
theorem Ins.step {qs ps:List Pc}{i j:Nat}(h:Ins qs ps i (j+1)){x y:Pc}(hx:ps[j+1]? = some x)(hy:ps[j]? = some y)(hn:¬leP y x):Ins qs ((ps.set (j+1) y).set j x) i j:=by
 obtain ⟨pre,x',mid,suf,e,h1,h2,h3,h4⟩:=h.ex
 obtain ⟨l,y',rfl,hl⟩:=snoc_of h1
 rw [e,get_mid h1] at hx
 injection hx with hx
 subst hx
 have e2:l++[y']++x' :: (mid++suf)=l++y' :: x' :: (mid++suf):=by simp
 rw [e,e2,get_mid hl] at hy
 injection hy with hy
 subst hy
 have e3:(ps.set (j+1) y').set j x'=l++x' :: (y' :: mid++suf):=by
  rw [e,e2,List.set_append_right _ _ (by omega),List.set_append_right _ _ (by omega),hl,show j+1 - j=1 by omega,Nat.sub_self]
  rfl
 have hle:leP x' y':=(leP_total x' y').resolve_right hn
 refine ⟨⟨l,x',y' :: mid,suf,e3,hl,by simp at h2 ⊢;omega,by simpa using h3,fun m hm=>?_⟩,?_⟩
 ·rcases List.mem_cons.1 hm with rfl | hm
  ·exact hle
  ·exact h4 m hm
 ·rw [e3]
  refine List.Perm.trans ?_ h.perm
  rw [e,e2]
  exact List.Perm.append_left _ (List.Perm.swap _ _ _)
theorem Ins.stop {qs ps:List Pc}{i j:Nat}(h:Ins qs ps i j)(hs:j=0∨∃x y,ps[j]? = some x∧ps[j - 1]? = some y∧leP y x):(ps.take (i+1)).Pairwise leP:=by
 obtain ⟨pre,x,mid,suf,e,h1,h2,h3,h4⟩:=h.ex
 have ht:ps.take (i+1)=pre++x :: mid:=by
  have e2:pre++x :: (mid++suf)=(pre++x :: mid)++suf:=by simp
  rw [e,e2,List.take_append_of_le_length (by simp;omega),List.take_of_length_le (by simp;omega)]
 have hpre:∀a,a ∈ pre→leP a x:=by
  intro a ha
  rcases hs with h0 | ⟨x',y,hx,hy,hle⟩
  ·rw [h0] at h1
   rw [List.eq_nil_of_length_eq_zero h1] at ha
   simp at ha
  ·rw [e,get_mid h1] at hx
   injection hx with hx
   subst hx
   cases j with
   | zero=>rw [List.eq_nil_of_length_eq_zero h1] at ha;simp at ha
   | succ j =>
     obtain ⟨l,y',rfl,hl⟩:=snoc_of h1
     have e2:l++[y']++x :: (mid++suf)=l++y' :: x :: (mid++suf):=by simp
     rw [e,e2,show j+1 - 1=j by omega,get_mid hl] at hy
     injection hy with hy
     subst hy
     rcases List.mem_append.1 ha with ha | ha
     ·have h5:(l++y' :: mid).Pairwise leP:=by simpa using h3
      exact leP_trans ((List.pairwise_append.1 h5).2.2 a ha y' (by simp)) hle
     ·obtain rfl:a=y':=by simpa using ha
      exact hle
 rw [ht]
 have h6:=List.pairwise_append.1 h3
 refine List.pairwise_append.2 ⟨h6.1,List.pairwise_cons.2 ⟨h4,h6.2.1⟩,fun a ha b hb=>?_⟩
 rcases List.mem_cons.1 hb with rfl | hb
 ·exact hpre a ha
 ·exact h6.2.2 a ha b hb
end Go.Proofs.YtdgliimmnnhhjaaGreatDoor.Pl
end
section
namespace Go.Proofs.YtdgliimmnnhhjaaGreatDoor
open Go Go.RowKit
theorem ints_one (ys:List Int):∀u ∈ ys.map (Value.int .i64),u.oneCell'=true:=by
 intro u hu
 obtain ⟨x,_,rfl⟩:=List.mem_map.1 hu
 rfl
section
variable {P:Program} (w:World)
theorem run_append_int (base:Nat)(t ty e:TypeId)(i:TypeInfo)(z:Value)(bytes:Nat)(ht:P.underlying t=some (.slice e))(hi:P.info? e=some i)(hz:i.zero=some z)
 (hsize:i.size=1) (hby:i.bytes=bytes) (hzs:z.cells.size=1)
 (v:Value) (n:Nat) (xs:List Value) (hown:w.ownsRow base e 1 v n xs)
 (A:Option Addr) (m c:Nat) (ys:List Int) (hin:IntsAt w A m ys)
 (h63:n+m≤maxLen) (hbytes:(n+m) * bytes≤140737488355328) (hbase:base≤w.heap.size) :
 ∃v' w',(Builtin.append_ #[t,t] ty #[v,.slice A m c]).run P w = .ok v' w'∧w'.ownsRow base e 1 v' (n+m) (xs++ys.map (.int .i64))∧w.grownBy w' v.ownBlock:=by
 have hl:=hin.len
 rcases Nat.eq_zero_or_pos m with h0 | h0
 ·subst h0
  obtain rfl:ys=[]:=List.eq_nil_of_length_eq_zero (by omega)
  have hr:(Builtin.append_ #[t,t] ty #[v,.slice A 0 c]).run P w = .ok v w:=by
   rcases hown.2 with ⟨rfl,rfl⟩ | ⟨g,cap,cur,rfl,_,_,hnc,_⟩
   ·cases A <;> simp [Builtin.append_,run_underlying ht,sizeOf,typeInfo,hi,Builtin.lenOf,Builtin.firstCells,loadCells,loadCellsFrom]
   ·cases A <;> simp [Builtin.append_,run_underlying ht,sizeOf,typeInfo,hi,Builtin.lenOf,Builtin.firstCells,hnc,storeCells,loadCells,loadCellsFrom]
  refine ⟨v,w,hr,by simpa using hown,⟨rfl,rfl,rfl,Nat.le_refl _,fun _ _ _=>rfl⟩⟩
 ·obtain ⟨b,o,rfl,hc⟩:=hin.2 h0
  obtain ⟨v',w',hr,h2,h3,_⟩:=run_append_own (P:=P) w base t ty e i z 1 bytes ht hi hz hsize hby hzs (by omega) v n xs hown ⟨b,o,none⟩ m c (ys.map (.int .i64)) (by simpa using hl) (fun j u hu=>by
   have:(⟨b,o,none⟩:Addr).add j=⟨b,o+j,none⟩:=by unfold Addr.add;split <;> simp_all
   rw [this];exact hc j u hu) (ints_one ys) h63 hbytes hbase
  exact ⟨v',w',hr,h2,h3⟩
theorem wp_append_int {o:Oper}{a:Act}{K:Act→World→Prop}{Q:Exit→Act→World→Prop}(s x:Operand)(t:TypeId)
 (ho:o.op = .call { callee := .builtin .append,args:=#[s,x],argTypes:=#[t,t] })
 (base:Nat) (e:TypeId) (i:TypeInfo) (z:Value) (bytes:Nat) (ht:P.underlying t=some (.slice e)) (hi:P.info? e=some i) (hz:i.zero=some z)
 (hsize:i.size=1) (hby:i.bytes=bytes) (hzs:z.cells.size=1)
 (v:Value) (n:Nat) (xs:List Value) (hs:a.eval s=v) (hown:w.ownsRow base e 1 v n xs)
 (A:Option Addr) (m c:Nat) (ys:List Int) (hx:a.eval x = .slice A m c) (hin:IntsAt w A m ys)
 (h63:n+m≤maxLen) (hbytes:(n+m) * bytes≤140737488355328) (hbase:base≤w.heap.size)
 (h:∀v' w',w'.ownsRow base e 1 v' (n+m) (xs++ys.map (.int .i64))→w.grownBy w' v.ownBlock→K (a.put o.dst v') w'):o.wp P a w K Q:=by
 obtain ⟨v',w',hr,h2,h3⟩:=run_append_int (P:=P) w base t o.type e i z bytes ht hi hz hsize hby hzs v n xs hown A m c ys hin h63 hbytes hbase
 unfold Oper.wp execOp
 simp only [ho,resolve,invoke,builtin,Sem.run_bind,Sem.run_pure,Result.andThen_ok,List.map_toArray,List.map_cons,List.map_nil,hs,hx,hr]
 exact h v' w' h2 h3
theorem wpList_append_int {ops:Array Oper}{rest:List Oper}{o:Oper}{a:Act}{Q:Exit→Act→World→Prop}(hgd:o.guard=none)(s x:Operand)(t:TypeId)
 (ho:o.op = .call { callee := .builtin .append,args:=#[s,x],argTypes:=#[t,t] })
 (base:Nat) (e:TypeId) (i:TypeInfo) (z:Value) (bytes:Nat) (ht:P.underlying t=some (.slice e)) (hi:P.info? e=some i) (hz:i.zero=some z)
 (hsize:i.size=1) (hby:i.bytes=bytes) (hzs:z.cells.size=1)
 (v:Value) (n:Nat) (xs:List Value) (hs:a.eval s=v) (hown:w.ownsRow base e 1 v n xs)
 (A:Option Addr) (m c:Nat) (ys:List Int) (hx:a.eval x = .slice A m c) (hin:IntsAt w A m ys)
 (h63:n+m≤maxLen) (hbytes:(n+m) * bytes≤140737488355328) (hbase:base≤w.heap.size)
 (h:∀v' w',w'.ownsRow base e 1 v' (n+m) (xs++ys.map (.int .i64))→w.grownBy w' v.ownBlock→wpList P ops Q rest (a.put o.dst v') w'):wpList P ops Q (o :: rest) a w :=
 wpList_plain hgd fun _ hK=>wp_append_int w s x t ho base e i z bytes ht hi hz hsize hby hzs v n xs hs hown A m c ys hx hin h63 hbytes hbase fun v' w' h2 h3=>hK _ _ (h v' w' h2 h3)
end
end Go.Proofs.YtdgliimmnnhhjaaGreatDoor
end
section
namespace Go.Proofs.YtdgliimmnnhhjaaGreatDoor.Pl
variable {d:Dg}
theorem lst_ex (d:Dg):∀(l:List Nat),l≠[]→∃p,Lst5 d l p:=by
 have key:∀(l m:List Nat) (p:Pc),Lst5 d m p→∃p,Lst5 d (m++l) p:=by
  intro l
  induction l with
  | nil=>exact fun m p h=>⟨p,by rw [List.append_nil];exact h⟩
  | cons q l ih =>
    intro m p h
    have e:m++q :: l=(m++[q])++l:=by simp
    rw [e]
    by_cases hq:lx (code d q) p.code<0
    ·exact ih _ _ (h.less hq 1)
    ·exact ih _ _ (h.more hq 1)
 intro l hl
 cases l with
 | nil=>exact absurd rfl hl
 | cons r l=>exact key l [r] _ (Lst5.one r 1)
open Classical in
theorem pc_ex (hd:Wf d){r:Nat}(hr:r<d.n):∃p,PcOk d p∧∀c,c ∈ p.order↔Comp d r c:=by
 obtain ⟨l,hl⟩:∃l,l=(List.range d.n).filter (fun c=>decide (Comp d r c)):=⟨_,rfl⟩
 have hm:∀c,c ∈ l↔c<d.n∧Comp d r c:=fun c=>by rw [hl,List.mem_filter,List.mem_range,decide_eq_true_iff]
 have h0:r ∈ l:=(hm r).2 ⟨hr,(ord_mem hd hr r).1 (ord_ok hd hr).root⟩
 obtain ⟨p,hp⟩:=lst_ex d l (List.ne_nil_of_mem h0)
 refine ⟨p,hp.ok hd hr hm,fun c=>?_⟩
 obtain ⟨q,h1,_,h3⟩:=hp.is
 obtain ⟨hq,hc⟩:=(hm q).1 h1
 rw [h3,ord_mem hd hq]
 exact ⟨fun e=>hc.trans e,fun e=>(comp_symm hd hr hc).trans e⟩
theorem pcs_up (hd:Wf d):∀k,k≤d.n→∃ps:List Pc,(∀p,p ∈ ps→PcOk d p)∧(ps.flatMap Pc.order).Nodup∧∀c,c<k→∃p,p ∈ ps∧c ∈ p.order
 | 0,_=>⟨[],fun p h=>absurd h (by simp),by simp,fun c h=>absurd h (by omega)⟩
 | k + 1, hk => by
   obtain ⟨ps,h1,h2,h3⟩:=pcs_up hd k (by omega)
   by_cases e:∃p,p ∈ ps∧k ∈ p.order
   ·refine ⟨ps,h1,h2,fun c hc=>?_⟩
    by_cases e2:c=k
    ·rw [e2];exact e
    ·exact h3 c (by omega)
   ·obtain ⟨p,hp,hm⟩:=pc_ex hd (show k<d.n by omega)
    refine ⟨ps++[p],fun q hq=>?_,?_,fun c hc=>?_⟩
    ·rcases List.mem_append.1 hq with hq | hq
     ·exact h1 q hq
     ·rw [List.mem_singleton.1 hq];exact hp
    ·rw [List.flatMap_append,List.nodup_append]
     refine ⟨h2,?_,fun x hx y hy exy=>?_⟩
     ·obtain ⟨r,hr,_,ho,_⟩:=hp
      simp only [List.flatMap_cons,List.flatMap_nil,List.append_nil]
      rw [ho]
      exact (ord_ok hd hr).nd
     ·subst exy
      obtain ⟨q,hq,hxq⟩:=List.mem_flatMap.1 hx
      have hy':x ∈ p.order:=by simpa using hy
      have c1:=(hm x).1 hy'
      obtain ⟨r,hr,_,ho,_⟩:=h1 q hq
      rw [ho,ord_mem hd hr] at hxq
      refine e ⟨q,hq,?_⟩
      rw [ho,ord_mem hd hr]
      exact hxq.trans (comp_symm hd (show k<d.n by omega) c1)
    ·by_cases e2:c=k
     ·refine ⟨p,by simp,?_⟩
      rw [e2,hm]
      exact (ord_mem hd (show k<d.n by omega) k).1 (ord_ok hd (show k<d.n by omega)).root
     ·obtain ⟨q,hq,hc2⟩:=h3 c (by omega)
      exact ⟨q,by simp [hq],hc2⟩
open Classical in
theorem code_ex (hd:Wf d):∃ps,Pcs d ps∧Srt ps:=by
 obtain ⟨ps,h1,h2,h3⟩:=pcs_up hd d.n (Nat.le_refl _)
 obtain ⟨qs,hqs⟩:∃qs,qs=ps.mergeSort (fun p q=>decide (kle p.code q.code)):=⟨_,rfl⟩
 have hp:qs.Perm ps:=by rw [hqs];exact List.mergeSort_perm _ _
 refine ⟨qs,⟨fun p hq=>h1 p (hp.mem_iff.1 hq),(hp.flatMap_right _).nodup_iff.2 h2,fun c hc=>?_⟩,?_⟩
 ·obtain ⟨p,hp1,hp2⟩:=h3 c hc
  exact ⟨p,hp.mem_iff.2 hp1,hp2⟩
 ·have := List.pairwise_mergeSort (le := fun p q : Pc => decide (kle p.code q.code)) (fun a b c h g => by rw [decide_eq_true_iff] at h g ⊢; exact kle_trans h g) (fun a b => by
   rw [Bool.or_eq_true,decide_eq_true_iff,decide_eq_true_iff]
   exact kle_total _ _) ps
  rw [←hqs] at this
  exact this.imp (fun h=>by rw [decide_eq_true_iff] at h;exact h)
end Go.Proofs.YtdgliimmnnhhjaaGreatDoor.Pl
end
section
namespace Go.Proofs.YtdgliimmnnhhjaaGreatDoor.Pl
variable {d:Dg}
def lstep (d:Dg)(ps:List Int)(h:Nat):List Int:=(ps.set (h / 4) (min (pv ps (h / 4)) (pv ps (d.m h / 4)))).set (d.m h / 4) (min (pv ps (h / 4)) (pv ps (d.m h / 4)))
def lrun (d:Dg)(ps:List Int):Nat→List Int
 | 0=>ps
 | h+1=>lstep d (lrun d ps h) h
def lpass (d:Dg):Nat→List Int
 | 0=>ids d.n d.n
 | p+1=>lrun d (lpass d p) (4 * d.n)
theorem lstep_pv (hd:Wf d){ps:List Int}(hl:ps.length=d.n){h c:Nat}(hh:h<4 * d.n):pv (lstep d ps h) c=if c=h / 4∨c=d.m h / 4 then min (pv ps (h / 4)) (pv ps (d.m h / 4)) else pv ps c:=by
 have hm:=hd.lt h hh
 unfold lstep
 rw [pv_set (by rw [List.length_set];omega),pv_set (by omega)]
 by_cases e1:c=d.m h / 4
 ·rw [if_pos e1,if_pos (.inr e1)]
 ·rw [if_neg e1]
  by_cases e2:c=h / 4
  ·rw [if_pos e2,if_pos (.inl e2)]
  ·rw [if_neg e2,if_neg (fun e=>e.elim e2 e1)]
theorem comp_sym (hd:Wf d){a b:Nat}(ha:a<d.n)(e:Comp d a b):Comp d b a:=hd.hm.con_symm (by unfold dart;omega) e
theorem PI.lstep (hd:Wf d){ps:List Int}(h:PI d ps){x:Nat}(hx:x<4 * d.n):PI d (lstep d ps x)∧(∀c,c<d.n→pv (Pl.lstep d ps x) c≤pv ps c)∧pv (Pl.lstep d ps x) (d.m x / 4)≤pv ps (x / 4):=by
 have hm:=hd.lt x hx
 have cm:=comp_m hd hx
 have cm':=comp_sym hd (show x / 4<d.n by omega) cm
 refine ⟨⟨by unfold Pl.lstep;rw [List.length_set,List.length_set];exact h.len,fun c hc=>?_⟩,fun c hc=>?_,?_⟩
 ·rw [lstep_pv hd h.len hx]
  by_cases e:c=x / 4∨c=d.m x / 4
  ·rw [if_pos e]
   obtain ⟨b,e1,e2,e3⟩:=h.is (x / 4) (by omega)
   obtain ⟨b',f1,f2,f3⟩:=h.is (d.m x / 4) (by omega)
   rcases Int.le_total (pv ps (x / 4)) (pv ps (d.m x / 4)) with g | g
   ·rw [Int.min_eq_left g]
    refine ⟨b,e1,?_,?_⟩
    ·rcases e with e | e <;> omega
    ·rcases e with e | e
     ·rw [e];exact e3
     ·rw [e];exact cm'.trans e3
   ·rw [Int.min_eq_right g]
    refine ⟨b',f1,?_,?_⟩
    ·rcases e with e | e <;> omega
    ·rcases e with e | e
     ·rw [e];exact cm.trans f3
     ·rw [e];exact f3
  ·rw [if_neg e];exact h.is c hc
 ·rw [lstep_pv hd h.len hx]
  by_cases e:c=x / 4∨c=d.m x / 4
  ·rw [if_pos e]
   rcases e with e | e
   ·rw [e];exact Int.min_le_left _ _
   ·rw [e];exact Int.min_le_right _ _
  ·rw [if_neg e];exact Int.le_refl _
 ·rw [lstep_pv hd h.len hx,if_pos (.inr rfl)]
  exact Int.min_le_left _ _
def Gd (d:Dg)(ps:List Int)(c:Nat):Prop:=∀b,b<d.n→Comp d c b→pv ps c≤(b:Int)
theorem PI.lrun (hd:Wf d){ps:List Int}(h:PI d ps):∀k,k≤4 * d.n→PI d (lrun d ps k)∧(∀c,c<d.n→pv (Pl.lrun d ps k) c≤pv ps c)∧(∀x,x<k→Gd d ps (x / 4)→Gd d (Pl.lrun d ps k) (d.m x / 4))
 | 0,_=>⟨h,fun c hc=>Int.le_refl _,fun x hx=>absurd hx (by omega)⟩
 | k + 1, hk => by
   obtain ⟨h1,h2,h3⟩:=PI.lrun hd h k (by omega)
   obtain ⟨g1,g2,g3⟩:=h1.lstep hd (x:=k) (by omega)
   refine ⟨g1,fun c hc=>Int.le_trans (g2 c hc) (h2 c hc),fun x hx hg=>?_⟩
   have hx4:x<4 * d.n:=by omega
   have hmx:=hd.lt x hx4
   by_cases e:x=k
   ·subst e
    intro b hb hc
    have a1:=hg b hb ((comp_m hd hx4).trans hc)
    have a2:=h2 (x / 4) (by omega)
    exact Int.le_trans g3 (Int.le_trans a2 a1)
   ·intro b hb hc
    have a1:=h3 x (by omega) hg b hb hc
    exact Int.le_trans (g2 _ (by omega)) a1
theorem PI.lpass (hd:Wf d):∀p,PI d (lpass d p)
 | 0=>PI.start d
 | p+1=>(PI.lrun hd (PI.lpass hd p) _ (Nat.le_refl _)).1
theorem cnt_all {p:Nat→Prop}:∀N,cnt p N=N→∀x,x<N→p x
 | 0,_,x,hx=>absurd hx (by omega)
 | N + 1, h, x, hx => by
   have t:=cnt_top p N
   by_cases e:p N
   ·rw [cnt_step_pos e] at h
    by_cases e2:x=N
    ·rw [e2];exact e
    ·exact cnt_all N (by omega) x (by omega)
   ·rw [cnt_step_neg e] at h;omega
theorem cnt_imp {p q:Nat→Prop}:∀N,(∀x,x<N→p x→q x)→cnt p N≤cnt q N
 | 0,_=>Nat.le_refl _
 | N + 1, h => by
   have a:=cnt_imp N (fun x hx=>h x (by omega))
   by_cases e:p N
   ·rw [cnt_step_pos e,cnt_step_pos (h N (by omega) e)];omega
   ·rw [cnt_step_neg e]
    have:=cnt_mono q (Nat.le_succ N)
    exact Nat.le_trans a this
theorem cnt_imp_lt {p q:Nat→Prop}:∀N,(∀x,x<N→p x→q x)→∀y,y<N→¬p y→q y→cnt p N<cnt q N
 | 0,_,y,hy,_,_=>absurd hy (by omega)
 | N + 1, h, y, hy, h1, h2 => by
   by_cases e:y=N
   ·subst e
    rw [cnt_step_neg h1,cnt_step_pos h2]
    have:=cnt_imp y (fun x hx=>h x (by omega))
    omega
   ·have a:=cnt_imp_lt N (fun x hx=>h x (by omega)) y (by omega) h1 h2
    by_cases e:p N
    ·rw [cnt_step_pos e,cnt_step_pos (h N (by omega) e)];omega
    ·rw [cnt_step_neg e]
     have:=cnt_mono q (Nat.le_succ N)
     exact Nat.lt_of_lt_of_le a this
theorem comp_least {c:Nat}(hc:c<d.n):∃r,r<d.n∧Comp d c r∧∀b,b<d.n→Comp d c b→r≤b:=by
 have:∀k c',c'<k→c'<d.n→Comp d c c'→∃r,r<d.n∧Comp d c r∧∀b,b<d.n→Comp d c b→r≤b:=by
  intro k
  induction k with
  | zero=>intro c' h;omega
  | succ k ih =>
    intro c' h1 h2 h3
    rcases Classical.em (∃b,b<c'∧b<d.n∧Comp d c b) with ⟨b,e1,e2,e3⟩ | e
    ·exact ih b (by omega) e2 e3
    ·exact ⟨c',h2,h3,fun b hb hcb=>Classical.byContradiction fun q=>e ⟨b,by omega,hb,hcb⟩⟩
 exact this (c+1) c (by omega) hc .refl
theorem Gd.closed (hd:Wf d){ps:List Int}(h:PI d ps)(hcl:∀x,x<4 * d.n→Gd d ps (x / 4)→Gd d ps (d.m x / 4)):∀c,c<d.n→Gd d ps c:=by
 intro c hc
 obtain ⟨r,r1,r2,r3⟩:=comp_least hc
 have gr:Gd d ps r:=fun b hb hcb=>by
  have a:=(h.nat r1).2
  have b':=r3 b hb (r2.trans hcb)
  omega
 have:=con_sub hd.hm (R:=fun x y=>Gd d ps (x / 4)↔Gd d ps (y / 4)) ⟨fun _ _=>Iff.rfl,fun _ _ _ _ e=>e.symm,fun _ _ _ _ _ _ e e'=>e.trans e'⟩
  (fun x _ => by show Gd d ps (x / 4) ↔ Gd d ps (rot x / 4); unfold rot; rw [tn_div]) (fun x hx => ⟨hcl x hx, fun g => by
    have:=hcl (d.m x) (hd.lt x hx) g
    rwa [hd.inv x hx] at this⟩) (x:=4 * r) (y:=4 * c) (by unfold dart;omega) (comp_sym hd hc r2)
 simp only [Nat.mul_div_cancel_left _ (show 0<4 by omega)] at this
 exact this.1 gr
theorem Gd.count (hd:Wf d):∀p,p≤d.n→p≤cnt (Gd d (lpass d p)) d.n∨∀c,c<d.n→Gd d (lpass d p) c
 | 0,_ => .inl (Nat.zero_le _)
 | p + 1, hp => by
   have h:=PI.lpass hd p
   obtain ⟨h1,h2,h3⟩:=h.lrun hd (4 * d.n) (Nat.le_refl _)
   have hk:∀c,c<d.n→Gd d (lpass d p) c→Gd d (lpass d (p+1)) c:=fun c hc g b hb hcb=>Int.le_trans (h2 c hc) (g b hb hcb)
   rcases Gd.count hd p (by omega) with a | a
   ·rcases Classical.em (∀x,x<4 * d.n→Gd d (lpass d p) (x / 4)→Gd d (lpass d p) (d.m x / 4)) with e | e
    ·exact .inr fun c hc=>hk c hc (Gd.closed hd h e c hc)
    ·have:∃x,x<4 * d.n∧Gd d (lpass d p) (x / 4)∧¬Gd d (lpass d p) (d.m x / 4):=Classical.byContradiction fun q=>e fun x hx g=>Classical.byContradiction fun q'=>q ⟨x,hx,g,q'⟩
     obtain ⟨x,x1,x2,x3⟩:=this
     have hm:=hd.lt x x1
     have:=cnt_imp_lt (p:=Gd d (lpass d p)) (q:=Gd d (lpass d (p+1))) d.n hk (d.m x / 4) (by omega) x3 (h3 x x1 x2)
     exact .inl (by omega)
   ·exact .inr fun c hc=>hk c hc (a c hc)
theorem lpass_done (hd:Wf d):PB d (lpass d d.n):=by
 have h:=PI.lpass hd d.n
 have hg:∀c,c<d.n→Gd d (lpass d d.n) c:=by
  rcases Gd.count hd d.n (Nat.le_refl _) with a | a
  ·exact cnt_all d.n (Nat.le_antisymm (cnt_top _ _) a)
  ·exact a
 refine h.done hd fun x hx=>?_
 have hm:=hd.lt x hx
 obtain ⟨b,e1,e2,e3⟩:=h.is (d.m x / 4) (by omega)
 have:=hg (x / 4) (by omega) b (by omega) ((comp_m hd hx).trans e3)
 omega
end Go.Proofs.YtdgliimmnnhhjaaGreatDoor.Pl
end
section
namespace Go.Proofs.YtdgliimmnnhhjaaGreatDoor.Pl
open Classical in
noncomputable def cl (p:Nat→Prop):List Nat→Nat
 | []=>0
 | x :: l=>(if p x then 1 else 0)+cl p l
open Classical in
theorem cl_append (p:Nat→Prop):∀l m:List Nat,cl p (l++m)=cl p l+cl p m
 | [],m=>by simp [cl]
 | x :: l, m => by
   have:=cl_append p l m
   show (if p x then 1 else 0)+cl p (l++m)=(if p x then 1 else 0)+cl p l+cl p m
   omega
open Classical in
theorem cl_le (p:Nat→Prop):∀l:List Nat,cl p l≤l.length
 | []=>Nat.le_refl _
 | x :: l => by
   have:=cl_le p l
   show (if p x then 1 else 0)+cl p l≤l.length+1
   split <;> omega
open Classical in
theorem cl_pos {p:Nat→Prop}{x:Nat}(h:p x):cl p [x]=1:=by show (if p x then 1 else 0)+0=1;rw [if_pos h]
open Classical in
theorem cl_neg {p:Nat→Prop}{x:Nat}(h:¬p x):cl p [x]=0:=by show (if p x then 1 else 0)+0=0;rw [if_neg h]
theorem cl_take {p:Nat→Prop}{l:List Nat}{i:Nat}(hi:i<l.length):cl p (l.take (i+1))=cl p (l.take i)+cl p [l.getD i 0]:=by
 rw [List.take_succ_eq_append_getElem hi,cl_append,List.getD_eq_getElem?_getD,List.getElem?_eq_getElem hi]
 rfl
open Classical in
noncomputable def hds (d:Dg):Nat→List Nat
 | 0=>[]
 | k+1=>if Least (nx d) k then hds d k++[k] else hds d k
theorem hds_pos {d:Dg}{k:Nat}(h:Least (nx d) k):hds d (k+1)=hds d k++[k]:=if_pos h
theorem hds_neg {d:Dg}{k:Nat}(h:¬Least (nx d) k):hds d (k+1)=hds d k:=if_neg h
theorem hds_lt (d:Dg):∀k x,x ∈ hds d k→x<k
 | 0,x,h=>by simp [hds] at h
 | k + 1, x, h => by
   by_cases e:Least (nx d) k
   ·rw [hds_pos e] at h
    rcases List.mem_append.1 h with h | h
    ·have:=hds_lt d k x h;omega
    ·rw [List.mem_singleton] at h;omega
   ·rw [hds_neg e] at h
    have:=hds_lt d k x h;omega
theorem hds_len (d:Dg):∀k,(hds d k).length≤k
 | 0=>Nat.le_refl _
 | k + 1 => by
   have:=hds_len d k
   by_cases e:Least (nx d) k
   ·rw [hds_pos e,List.length_append];simp;omega
   ·rw [hds_neg e];omega
theorem hds_nf (d:Dg)(ps:List Int)(c:Nat):∀k,cl (fun h=>pv ps (h / 4)=c) (hds d k)=nf d ps c k
 | 0=>by show 0=cnt _ 0;rfl
 | k + 1 => by
   have ih:=hds_nf d ps c k
   by_cases e:Least (nx d) k
   ·rw [hds_pos e,cl_append,ih]
    by_cases e2:pv ps (k / 4)=c
    ·rw [cl_pos e2];unfold nf;rw [cnt_step_pos ⟨e,e2⟩]
    ·rw [cl_neg e2];unfold nf;rw [cnt_step_neg (fun h=>e2 h.2)];omega
   ·rw [hds_neg e,ih];unfold nf;rw [cnt_step_neg (fun h=>e h.1)]
theorem least_cyc {d:Dg}(hd:Wf d){h p:Nat}(hh:h<4 * d.n)(hp:Per (nx d) h p):Least (nx d) h↔∀i,i<p→h≤it (nx d) i h:=by
 constructor
 ·intro hl i _
  exact hl i
 ·intro hi i
  have hm:it (nx d) i h ∈ cyc (nx d) h p:=(mem_cyc hp).2 ⟨i,rfl⟩
  unfold cyc at hm
  obtain ⟨j,h1,h2⟩:=List.mem_map.1 hm
  rw [←h2]
  exact hi j (List.mem_range.1 h1)
theorem lrun_pi {d:Dg}(hd:Wf d)(p k:Nat)(hk:k≤4 * d.n):PI d (lrun d (lpass d p) k):=((PI.lpass hd p).lrun hd k hk).1
end Go.Proofs.YtdgliimmnnhhjaaGreatDoor.Pl
end
section
namespace Go.Proofs.YtdgliimmnnhhjaaGreatDoor
open Go Go.RowKit
set_option maxRecDepth 100000 in
set_option maxHeartbeats 4000000 in
theorem rlabel_any (d:Pl.Dg)(hd:Pl.Wf d)(B:Option Addr)(cq m:Nat)(w:World)(hm:m=4 * d.n)(hb:IntsAt w B m (nats d.mt)) :
 Calls Tryz.prog 14 #[.slice B m cq] w fun e w' =>
  e = .returned (.slice (some ⟨w.heap.size,0,none⟩) d.n d.n)∧IRow w' w.heap.size (Pl.lpass d d.n)∧Below w.heap.size w w':=by
 have hn:=hd.few
 have HF:=hide hd
 have HM:=hide hm
 have hm2:m≤256:=by omega
 have HB:=hide hb
 have hdiv:(m:Int) / 4=(d.n:Int):=by omega
 have hdiv2:(m:Int).tdiv 4=(d.n:Int):=by rw [hm];show ((4 * d.n:Nat):Int).tdiv 4=_;rw [Int.tdiv_eq_ediv_of_nonneg (by omega)];omega
 clear hd hm hb
 have hmk:=run_ints d.n (by omega) w
 go_enter Tryz.func14,Tryz.ntmps14
 go_wp2
 clear hmk
 obtain ⟨W1,hW1⟩:∃W1:World,W1=w.alloc (.cells (Array.replicate d.n (Value.int .i64 0)) 3):=⟨_,rfl⟩
 have B1:=hide (show Below w.heap.size w W1 by rw [hW1];exact (Below.refl _ _).alloc (Nat.le_refl _) _)
 have R1:=hide (show IRow W1 w.heap.size (Pl.ids d.n 0) by
  rw [hW1,Pl.ids_zero]
  exact IRow.made w d.n)
 rw [←hW1]
 clear hW1
 go_loopg [5] d.n (fun g i wx=>∃k:Nat,k+g=d.n∧i = .int .i64 k∧Below w.heap.size w wx∧IRow wx w.heap.size (Pl.ids d.n k))
 case atStart=>exact ⟨0,by omega,rfl,B1.out,R1.out⟩
 case round =>
  obtain ⟨k,hkg,rfl,b2,r2⟩:=hrel
  have HK:=hide hkg
  have hks:k≤d.n:=by omega
  clear hkg
  by_cases hlt:k<d.n
  ·have c1:=r2.cell (i:=k) (by rw [Pl.ids_len];exact hlt)
   have f1:=Row.free r2 k
   have B2:=hide b2
   have R2:=hide r2
   clear b2 r2
   go_wp2
   go_roundg (gk - 1)
   case measure=>have:=HK.out;omega
   case rel =>
    refine ⟨k+1,by have:=HK.out;omega,by go_num,?_,?_⟩
    ·exact B2.out.setCell (Nat.le_refl _) _
    ·have:=R2.out.set k k
     rwa [Pl.ids_set hlt] at this
  ·have hkn:k=d.n:=by omega
   have B2:=hide b2
   have R2:=hide (show IRow wr w.heap.size (Pl.lpass d 0) by subst hkn;exact r2)
   clear b2 r2 hkn
   go_wp2
   go_loopg [6] d.n (fun g p wx=>∃k:Nat,k+g=d.n∧p = .int .i64 k∧Below w.heap.size w wx∧IRow wx w.heap.size (Pl.lpass d k))
   case atStart=>exact ⟨0,by omega,rfl,B2.out,R2.out⟩
   case round =>
    clear B2 R2 B1 R1 HK hks hlt
    obtain ⟨p,hkg,rfl,b3,r3⟩:=hrel
    have HP:=hide hkg
    have hpn:p≤d.n:=by omega
    have B3:=hide b3
    have R3:=hide r3
    clear hkg b3 r3
    by_cases hlt:p<d.n
    ·go_wp2
     go_loopg [7] m (fun g i wx=>∃k:Nat,k+g=m∧i = .int .i64 k∧Below w.heap.size w wx∧IRow wx w.heap.size (Pl.lrun d (Pl.lpass d p) k))
     case atStart=>exact ⟨0,by omega,rfl,B3.out,R3.out⟩
     case round =>
      clear B3 R3
      obtain ⟨k,hkg,rfl,b4,r4⟩:=hrel
      have HK:=hide hkg
      have hkm:k≤m:=by omega
      have B4:=hide b4
      have R4:=hide r4
      clear hkg b4 r4
      by_cases hlk:k<m
      ·have hk4:k<4 * d.n:=by have:=HM.out;omega
       have hmk4:=HF.out.lt k hk4
       have HI:=hide (Pl.lrun_pi HF.out p k (by omega))
       obtain ⟨bb,bo,rfl,hmc⟩:=mate_at (by rw [←HM.out];exact HB.out.keep B4.out) hk4
       obtain ⟨qs,hqs⟩:∃qs,qs=Pl.lrun d (Pl.lpass d p) k:=⟨_,rfl⟩
       have HQS:=hide hqs
       rw [←hqs] at R4 HI
       clear hqs
       have hk5:k / 4<d.n:=by omega
       have c1:=R4.out.cell (i:=k / 4) (by rw [HI.out.len];exact hk5)
       obtain ⟨u,hu⟩:∃u,u=d.m k:=⟨_,rfl⟩
       rw [←hu] at hmc hmk4
       have HU:=hide hu
       have hu5:u / 4<d.n:=by omega
       have c2:=R4.out.cell (i:=u / 4) (by rw [HI.out.len];exact hu5)
       have f1:=Row.free R4.out (k / 4)
       have f2:=Row.free R4.out (u / 4)
       have l1:=HI.out.nat hk5
       have l2:=HI.out.nat hu5
       obtain ⟨x,hx⟩:∃x,x=Pl.pv qs (k / 4):=⟨_,rfl⟩
       obtain ⟨y,hy⟩:∃y,y=Pl.pv qs (u / 4):=⟨_,rfl⟩
       have HX:=hide hx
       have HY:=hide hy
       rw [←hx] at c1 l1
       rw [←hy] at c2 l2
       clear hu hx hy
       go_wp2
       go_quiet (fail)
       go_wp2
       go_cut [10] from 43 to 51 (fun s10 wx=>s10 = .int .i64 (min x y)∧IRow wx w.heap.size qs∧Below w.heap.size w wx)
       case first =>
        go_region
        all_goals (go_wp2_with fail;go_meet)
        all_goals exact ⟨rfl,Row.drewN R4.out _,Below.drewN' B4.out _⟩
       case rest =>
        obtain ⟨rfl,r6,b6⟩:=hcut
        have c1:=r6.cell (i:=k / 4) (by rw [HI.out.len];exact hk5)
        have c2:=r6.cell (i:=u / 4) (by rw [HI.out.len];exact hu5)
        have f1:=Row.free r6 (k / 4)
        have f2:=Row.free r6 (u / 4)
        have R6:=hide r6
        have B6:=hide b6
        have MU:=hide (rfl:min x y=min x y)
        obtain ⟨z,hz⟩:∃z,z=min x y:=⟨_,rfl⟩
        rw [←hz]
        have HZ:=hide hz
        have f3:=Row.free (R6.out.set (k / 4) z) (u / 4)
        have c3:=(R6.out.set (k / 4) z).cell (i:=u / 4) (by rw [List.length_set,HI.out.len];exact hu5)
        clear r6 b6 hz MU
        go_wp2
        go_roundg (gk - 1)
        case measure=>have:=HK.out;omega
        case rel =>
         refine ⟨k+1,by have:=HK.out;omega,by go_num,(B6.out.setCell (Nat.le_refl _) _).setCell (Nat.le_refl _) _,?_⟩
         have h:=(R6.out.set (k / 4) z).set (u / 4) z
         have e:Pl.lrun d (Pl.lpass d p) (k+1)=(qs.set (k / 4) z).set (u / 4) z:=by
          show Pl.lstep d (Pl.lrun d (Pl.lpass d p) k) k=_
          unfold Pl.lstep
          rw [←HQS.out,←HU.out,←HX.out,←HY.out,←HZ.out]
         rw [e]
         exact h
      ·have hkm':k=m:=by omega
       have R5:=hide (show IRow wr w.heap.size (Pl.lpass d (p+1)) by
        have h:=R4.out
        rw [hkm',HM.out] at h
        exact h)
       clear hkm'
       go_wp2
       go_roundg (d.n - (p+1))
       case measure=>have:=HP.out;omega
       case rel=>exact ⟨p+1,by omega,by go_num,B4.out,R5.out⟩
    ·have hpn':p=d.n:=by omega
     have E:=hide (show IRow wr w.heap.size (Pl.lpass d d.n) by rw [←hpn'];exact R3.out)
     clear hpn'
     go_wp2
     go_ret
     exact ⟨rfl,E.out,B3.out⟩
end Go.Proofs.YtdgliimmnnhhjaaGreatDoor
end
section
namespace Go.Proofs.YtdgliimmnnhhjaaGreatDoor.Pl
section
variable {a b:Dg} {σ:Nat→Nat}
theorem Iso.out (I:Iso a b σ){h:Nat}(hh:h<4 * a.n):Pl.out b (hf σ h)=Pl.out a h:=by
 unfold Pl.out
 rw [hf_div,hf_mod,I.s _ (by omega)]
theorem Iso.onto (I:Iso a b σ){g:Nat}(hg:g<4 * a.n):∃h,h<4 * a.n∧hf σ h=g:=by
 obtain ⟨p,hp,_,e⟩:=I.bij.back (show g / 4<a.n by omega)
 have l:=I.bij.it (p - 1) (g / 4) (by omega)
 refine ⟨4 * it σ (p - 1) (g / 4)+g % 4,by omega,?_⟩
 rw [hf_at σ _ (by omega)]
 have:p=(p - 1)+1:=by omega
 rw [this] at e
 have e2:σ (it σ (p - 1) (g / 4))=g / 4:=e
 rw [e2]
 omega
theorem Iso.wf (I:Iso a b σ)(ha:Wf a)(hl:b.mt.length=4 * b.n):Wf b:=by
 have hn:=I.n
 have key:∀P:Nat→Prop,(∀h,h<4 * a.n→P (hf σ h))→∀g,g<4 * b.n→P g:=fun P hP g hg=>by
  obtain ⟨h,h1,h2⟩:=I.onto (g:=g) (by omega)
  rw [←h2]
  exact hP h h1
 refine ⟨by rw [←hn];exact ha.few,hl,by rw [←I.lp];exact ha.lp,fun c hc=>?_,key _ fun h hh=>?_,key _ fun h hh=>?_,key _ fun h hh=>?_,key _ fun h hh=>?_⟩
 ·obtain ⟨h,h1,h2⟩:=I.onto (g:=4 * c) (by omega)
  have e:σ (h / 4)=c:=by rw [←hf_div σ h,h2];omega
  rw [←e,I.s _ (by omega)]
  exact ha.sign _ (by omega)
 ·rw [I.m h hh,←hn];exact I.hlt (ha.lt h hh)
 ·rw [I.m h hh];exact fun e=>ha.ne h hh (I.hinj (ha.lt h hh) hh e)
 ·rw [I.m h hh,I.m _ (ha.lt h hh),ha.inv h hh]
 ·rw [I.m h hh,I.out hh,I.out (ha.lt h hh)];exact ha.way h hh
theorem Iso.valid (I:Iso a b σ)(ha:Valid a)(hl:b.mt.length=4 * b.n):Valid b:=by
 have hw:=I.wf ha.wf hl
 have hn:=I.n
 refine Valid.iff.2 ⟨hw,?_⟩
 have h0:=(Valid.iff.1 ha).2
 exact Gen.map (S:=dart a) (T:=dart b) (r:=rot) (r':=rot) (a:=a.m) (a':=b.m) (t:=hf σ) (fun x hx=>tn_lt hx) (fun x hx=>ha.wf.lt x hx) (fun x hx=>by unfold rot;rw [hf_tn]) (fun x hx=>I.m x hx) (fun x y hx hy e=>I.hinj hx hy e) (fun x hx=>by show _<4 * b.n;rw [←hn];exact I.hlt hx) (fun y hy=>I.onto (by have:y<4 * b.n:=hy;omega)) h0
end
structure Nmb (n:Nat) (σ:Nat→Nat) (num:List Int) (k:Nat):Prop where
 len:num.length=n
 lt:∀i,i<k→σ i<n
 is:∀i,i<k→pv num (σ i)=i
 no:∀c,c<n→pv num c = -1∨∃i,i<k∧σ i=c
theorem Nmb.start (n:Nat)(σ:Nat→Nat):Nmb n σ (List.replicate n (-1)) 0 :=
 ⟨by simp,fun i h=>absurd h (by omega),fun i h=>absurd h (by omega),fun c hc => .inl (by unfold pv;rw [List.getD_eq_getElem?_getD,List.getElem?_replicate,if_pos hc];rfl)⟩
theorem Nmb.step {n k:Nat}{σ:Nat→Nat}{num:List Int}(h:Nmb n σ num k)(hc:σ k<n)(hz:pv num (σ k)<0):Nmb n σ (num.set (σ k) (k:Int)) (k+1):=by
 have ne:∀i,i<k→σ i≠σ k:=fun i hi e=>by have:=h.is i hi;rw [e] at this;omega
 refine ⟨by rw [List.length_set];exact h.len,fun i hi=>?_,fun i hi=>?_,fun c hcn=>?_⟩
 ·by_cases e:i=k
  ·rw [e];exact hc
  ·exact h.lt i (by omega)
 ·rw [pv_set (by rw [h.len];exact hc)]
  by_cases e:i=k
  ·rw [e,if_pos rfl]
  ·rw [if_neg (ne i (by omega))];exact h.is i (by omega)
 ·rw [pv_set (by rw [h.len];exact hc)]
  by_cases e:c=σ k
  ·exact .inr ⟨k,by omega,e.symm⟩
  ·rw [if_neg e]
   rcases h.no c hcn with h1 | ⟨i,h1,h2⟩
   ·exact .inl h1
   ·exact .inr ⟨i,by omega,h2⟩
theorem Nmb.inj {n k:Nat}{σ:Nat→Nat}{num:List Int}(h:Nmb n σ num k){i j:Nat}(hi:i<k)(hj:j<k)(e:σ i=σ j):i=j:=by
 have h1:=h.is i hi
 have h2:=h.is j hj
 rw [e] at h1
 omega
theorem Nmb.all {n:Nat}{σ:Nat→Nat}{num:List Int}(h:Nmb n σ num n){c:Nat}(hc:c<n):∃i,i<n∧σ i=c∧pv num c=i:=by
 have hb:Bij n (fun c=>c<n) σ:=⟨fun _ h=>h,fun i hi=>h.lt i hi,fun i j hi hj e=>h.inj hi hj e⟩
 obtain ⟨p,hp,_,e⟩:=hb.back hc
 have:p=(p - 1)+1:=by omega
 rw [this] at e
 have e2:σ (it σ (p - 1) c)=c:=e
 have l:=hb.it (p - 1) c hc
 exact ⟨_,l,e2,by rw [←e2,h.is _ l,e2]⟩
def fil (n k:Nat):List Int:=(List.range n).map (fun j=>if j<k then -1 else 0)
theorem fil_len (n k:Nat):(fil n k).length=n:=by unfold fil;simp
theorem fil_zero (n:Nat):fil n 0=List.replicate n 0:=by
 unfold fil
 refine List.ext_getElem (by simp) fun i h1 h2=>by simp
theorem fil_done (n:Nat):fil n n=List.replicate n (-1):=by
 unfold fil
 refine List.ext_getElem (by simp) fun i h1 h2=>?_
 simp only [List.getElem_map,List.getElem_range,List.getElem_replicate]
 rw [if_pos (by simpa using h1)]
theorem fil_set {n k:Nat}(hk:k<n):(fil n k).set k (-1)=fil n (k+1):=by
 unfold fil
 refine List.ext_getElem (by simp) fun i h1 h2=>?_
 rw [List.getElem_set]
 simp only [List.getElem_map,List.getElem_range]
 by_cases e:k=i
 ·subst e;rw [if_pos rfl,if_pos (by omega)]
 ·rw [if_neg e]
  by_cases e2:i<k
  ·rw [if_pos e2,if_pos (by omega)]
  ·rw [if_neg e2,if_neg (by omega)]
def rsg (d:Dg)(σ:Nat→Nat)(k:Nat):List Int:=(List.range d.n).map (fun j=>if j<k then d.s (σ j) else 0)
def rmt (d:Dg)(σ:Nat→Nat)(num:List Int)(k:Nat):List Int:=(List.range (4 * d.n)).map (fun h=>if h<k then 4 * pv num (d.m (hf σ h) / 4)+((d.m (hf σ h) % 4:Nat):Int) else 0)
theorem rsg_len (d:Dg)(σ:Nat→Nat)(k:Nat):(rsg d σ k).length=d.n:=by unfold rsg;simp
theorem rmt_len (d:Dg)(σ:Nat→Nat)(num:List Int)(k:Nat):(rmt d σ num k).length=4 * d.n:=by unfold rmt;simp
theorem rsg_zero (d:Dg)(σ:Nat→Nat):rsg d σ 0=List.replicate d.n 0:=by
 unfold rsg
 refine List.ext_getElem (by simp) fun i h1 h2=>by simp
theorem rmt_zero (d:Dg)(σ:Nat→Nat)(num:List Int):rmt d σ num 0=List.replicate (4 * d.n) 0:=by
 unfold rmt
 refine List.ext_getElem (by simp) fun i h1 h2=>by simp
theorem rsg_set {d:Dg}{σ:Nat→Nat}{k:Nat}(hk:k<d.n):(rsg d σ k).set k (d.s (σ k))=rsg d σ (k+1):=by
 unfold rsg
 refine List.ext_getElem (by simp) fun i h1 h2=>?_
 rw [List.getElem_set]
 simp only [List.getElem_map,List.getElem_range]
 by_cases e:k=i
 ·subst e;rw [if_pos rfl,if_pos (by omega)]
 ·rw [if_neg e]
  by_cases e2:i<k
  ·rw [if_pos e2,if_pos (by omega)]
  ·rw [if_neg e2,if_neg (by omega)]
theorem rmt_set {d:Dg}{σ:Nat→Nat}{num:List Int}{k:Nat}(hk:k<4 * d.n):(rmt d σ num k).set k (4 * pv num (d.m (hf σ k) / 4)+((d.m (hf σ k) % 4:Nat):Int))=rmt d σ num (k+1):=by
 unfold rmt
 refine List.ext_getElem (by simp) fun i h1 h2=>?_
 rw [List.getElem_set]
 simp only [List.getElem_map,List.getElem_range]
 by_cases e:k=i
 ·subst e;rw [if_pos rfl,if_pos (by omega)]
 ·rw [if_neg e]
  by_cases e2:i<k
  ·rw [if_pos e2,if_pos (by omega)]
  ·rw [if_neg e2,if_neg (by omega)]
def rnD (d:Dg)(σ:Nat→Nat)(num:List Int):Dg:=⟨rsg d σ d.n,(rmt d σ num (4 * d.n)).map Int.toNat,d.lp⟩
theorem rnD_n (d:Dg)(σ:Nat→Nat)(num:List Int):(rnD d σ num).n=d.n:=rsg_len _ _ _
theorem rnD_nats {d:Dg}(hd:Wf d){σ:Nat→Nat}{num:List Int}(h:Nmb d.n σ num d.n):(rnD d σ num).mt.map (fun m:Nat=>(m:Int))=rmt d σ num (4 * d.n):=by
 show ((rmt d σ num (4 * d.n)).map Int.toNat).map (fun m:Nat=>(m:Int))=_
 have hl:∀x,x<4 * d.n→hf σ x<4 * d.n:=fun x hx=>by have:=h.lt (x / 4) (by omega);unfold hf;omega
 rw [List.map_map]
 conv=>rhs;rw [←List.map_id (rmt d σ num (4 * d.n))]
 refine List.map_congr_left fun z hz=>?_
 unfold rmt at hz
 obtain ⟨x,hx,rfl⟩:=List.mem_map.1 hz
 rw [List.mem_range] at hx
 rw [if_pos hx]
 obtain ⟨i,i1,i2,i3⟩:=h.all (c:=d.m (hf σ x) / 4) (by have:=hd.lt _ (hl x hx);omega)
 rw [i3]
 show ((4 * (i:Int)+((d.m (hf σ x) % 4:Nat):Int)).toNat:Int)=4 * (i:Int)+((d.m (hf σ x) % 4:Nat):Int)
 omega
end Go.Proofs.YtdgliimmnnhhjaaGreatDoor.Pl
end
section
namespace Go.Proofs.YtdgliimmnnhhjaaGreatDoor
open Go Go.RowKit
def sct (f:Nat→Nat)(g:Nat→Int)(z:List Int):Nat→List Int
 | 0=>z
 | k+1=>(sct f g z k).set (f k) (g k)
theorem sct_len (f:Nat→Nat)(g:Nat→Int)(z:List Int):∀k,(sct f g z k).length=z.length
 | 0=>rfl
 | k+1=>by show ((sct f g z k).set _ _).length=_;rw [List.length_set,sct_len f g z k]
theorem sct_at {f:Nat→Nat}{g:Nat→Int}{z:List Int}(hz:∀i,i<z.length→f i<z.length)(hi:∀i j,i<z.length→j<z.length→f i=f j→i=j):∀k,k≤z.length→∀i,i<k→(sct f g z k)[f i]? = some (g i)
 | 0,_,i,h=>absurd h (by omega)
 | k + 1, hk, i, h => by
   show ((sct f g z k).set (f k) (g k))[f i]? = _
   by_cases e:i=k
   ·subst e
    rw [List.getElem?_set_self (by rw [sct_len];exact hz i (by omega))]
   ·rw [List.getElem?_set_ne (fun q=>e (hi _ _ (by omega) (by omega) q.symm)),sct_at hz hi k (by omega) i (by omega)]
def rnE (d:Pl.Dg)(σ τ:Nat→Nat):Pl.Dg:=⟨(List.range d.n).map (fun i=>d.s (σ i)),(List.range (4 * d.n)).map (fun h=>Pl.hf τ (d.m (Pl.hf σ h))),d.lp⟩
def Inv2 (n:Nat)(σ τ:Nat→Nat):Prop:=(∀i,i<n→σ i<n∧τ (σ i)=i)∧∀c,c<n→τ c<n∧σ (τ c)=c
theorem Inv2.four {n:Nat}{σ τ:Nat→Nat}(h:Inv2 n σ τ):Inv2 (4 * n) (Pl.hf σ) (Pl.hf τ):=by
 have key:∀{σ τ:Nat→Nat},(∀i,i<n→σ i<n∧τ (σ i)=i)→∀i,i<4 * n→Pl.hf σ i<4 * n∧Pl.hf τ (Pl.hf σ i)=i:=fun {σ τ} h i hi=>by
  obtain ⟨h1,h2⟩:=h (i / 4) (by omega)
  refine ⟨by unfold Pl.hf;omega,?_⟩
  have e1:=Pl.hf_div σ i
  have e2:=Pl.hf_mod σ i
  unfold Pl.hf at e1 e2 ⊢
  rw [e1,e2,h2];omega
 exact ⟨key h.1,key h.2⟩
theorem rnE_n (d:Pl.Dg)(σ τ:Nat→Nat):(rnE d σ τ).n=d.n:=by unfold rnE Pl.Dg.n;simp
theorem rnE_iso {d:Pl.Dg}(hd:Pl.Wf d){σ τ:Nat→Nat}(h:Inv2 d.n σ τ):Pl.Iso (rnE d σ τ) d σ:=by
 have hn:=rnE_n d σ τ
 have h4:=h.four
 refine ⟨hn,rfl,fun c hc=>by rw [hn] at hc ⊢;exact (h.1 c hc).1,fun c c' hc hc' e=>by rw [hn] at hc hc';rw [←(h.1 c hc).2,e,(h.1 c' hc').2],fun c hc=>?_,fun x hx=>?_⟩
 ·rw [hn] at hc
  show d.s (σ c)=((List.range d.n).map (fun i=>d.s (σ i))).getD c 0
  rw [List.getD_eq_getElem?_getD,List.getElem?_map,List.getElem?_range hc];rfl
 ·rw [hn] at hx
  have e:(rnE d σ τ).m x=Pl.hf τ (d.m (Pl.hf σ x)):=by
   show ((List.range (4 * d.n)).map (fun h=>Pl.hf τ (d.m (Pl.hf σ h)))).getD x x=_
   rw [List.getD_eq_getElem?_getD,List.getElem?_map,List.getElem?_range hx];rfl
  rw [e,(h4.2 _ (hd.lt _ (h4.1 x hx).1)).2]
theorem rnE_back {d:Pl.Dg}(hd:Pl.Wf d){σ τ:Nat→Nat}(h:Inv2 d.n σ τ):Pl.Iso d (rnE d σ τ) τ:=by
 have hn:=rnE_n d σ τ
 have h4:=h.four
 refine ⟨hn.symm,rfl,fun c hc=>(h.2 c hc).1,fun c c' hc hc' e=>by rw [←(h.2 c hc).2,e,(h.2 c' hc').2],fun c hc=>?_,fun x hx=>?_⟩
 ·obtain ⟨h1,h2⟩:=h.2 c hc
  show ((List.range d.n).map (fun i=>d.s (σ i))).getD (τ c) 0=_
  rw [List.getD_eq_getElem?_getD,List.getElem?_map,List.getElem?_range h1]
  show d.s (σ (τ c))=_
  rw [h2]
 ·obtain ⟨h1,h2⟩:=h4.2 x hx
  show ((List.range (4 * d.n)).map (fun h=>Pl.hf τ (d.m (Pl.hf σ h)))).getD (Pl.hf τ x) (Pl.hf τ x)=_
  rw [List.getD_eq_getElem?_getD,List.getElem?_map,List.getElem?_range h1]
  show Pl.hf τ (d.m (Pl.hf σ (Pl.hf τ x)))=_
  rw [h2]
theorem rnE_valid {d:Pl.Dg}(hd:Pl.Valid d){σ τ:Nat→Nat}(h:Inv2 d.n σ τ):Pl.Valid (rnE d σ τ) :=
 (rnE_back hd.wf h).valid hd (by rw [rnE_n];unfold rnE;simp)
def rnA (n:Nat)(σ:Nat→Nat)(k:Nat):List Int:=sct σ (fun i=>(i:Int)) (List.replicate n 0) k
end Go.Proofs.YtdgliimmnnhhjaaGreatDoor
end
section
namespace Go.Proofs.YtdgliimmnnhhjaaGreatDoor
open Go.ChangeShapes Go.WideShapes Go.ChangeAt Go.RowKit Go.Deep
section
variable {H:Type} {enc:TypeId × Value→H} {P:Program} {w:World} {base:Nat} {spare:Nat→Bool} {held:Bool}
theorem post_of_below {f:Func}{s:ChangeSpec}{apart fresh handsOn again:Bool}{W W':World}{args:Array Value}{v:Value}{ds gs:List (DataW H)}{before pa pv:List MemPlace}
 (hW:DataW.Whole enc P f.params.toList s.vars apart W args.toList ds gs before)
 (hres:∀(b:Nat) (sp:Nat→Bool) (hd:Bool),DataW.TrodAll enc P W' b sp hd f.resultTypes.toList (v.resultList f.resultTypes.size) (s.fn H (ds++gs)).results [])
 (hargs:∀sp:Nat→Bool,(∀p ∈ before,sp p.block=true)→DataW.TrodAll enc P W' 0 sp true f.params.toList args.toList (s.fn H (ds++gs)).args pa)
 (hvars:∀sp:Nat→Bool,(∀p ∈ before,sp p.block=true)→DataW.TrodVars enc P W' sp s.vars (s.fn H (ds++gs)).vars pv)
 (hps:before=pa++pv) (hb:Below W.heap.size W W')
 (hok:∀(j:Nat) (t:TypeId) (r:Value),f.resultTypes[j]? = some t→(v.resultList f.resultTypes.size)[j]? = some r→Value.okWide P W' .any 0 t r) :
 s.post enc P f apart fresh handsOn again W args v W':=by
 have hlt:∀p ∈ before,p.block<W.heap.size:=fun p hp=>hW.lt p hp
 have hold:∀p ∈ before,(fun b=>decide (b<W.heap.size)) p.block=true:=fun p hp=>by simpa using hlt p hp
 refine ⟨ds,gs,before,[],pa,pv,hW,hres _ _ _,hargs _ hold,hvars _ hold,World.keptBut_mono (fun p hp=>⟨hp,?_⟩) (hb.frame (· ∈ before)),fun _=>?_⟩
 ·rw [hps,List.mem_append] at hp
  exact Or.inr hp
 ·obtain ⟨_,_,_,_,_,hz,hn⟩:=hW
  refine ⟨hok,_,_,([]++pa)++pv,⟨[]++pa,pv,trodAll_append (hargs _ (fun _ _=>rfl)) (hres _ _ _),hvars _ (fun _ _=>rfl),rfl,?_,?_⟩,?_⟩
  ·intro b off hp
   have hin:MemPlace.cell b off ∈ before:=by rw [hps];simpa using hp
   rw [hb.frozen (hlt _ hin)]
   exact hz b off hin
  ·intro ha
   have:=hn ha
   rw [hps] at this
   simpa using this
  ·intro p hp _
   rw [hps]
   simpa using hp
end
end Go.Proofs.YtdgliimmnnhhjaaGreatDoor
end
section
namespace Go.Proofs.YtdgliimmnnhhjaaGreatDoor
open Go Go.ChangeShapes Go.WideShapes Go.ChangeAt Go.RowKit Go.Deep
theorem spot_noneM {w:World}{a:Addr}{v:Value}(h:w.cell? a=some v):a=⟨a.block,a.off,none⟩:=by
 obtain ⟨b,o,sp⟩:=a
 cases sp with
 | none=>rfl
 | some s =>
   unfold World.cell? at h
   simp only at h
   split at h
   ·simp at h
   ·cases h
theorem addr_formM {w:World}{a:Addr}{v:Value}(h:w.cell? (a.add 0)=some v):∃b o,a=⟨b,o,none⟩:=⟨_,_,spot_noneM h⟩
section
variable {H:Type} {enc:TypeId × Value→H} {w:World} {base:Nat} {spare:Nat→Bool} {held:Bool} {fuel:Nat}
theorem ints_of_trod {v:Value}{y:DataW H × List MemPlace}(h:DataW.trod enc Tryz.prog w base spare held fuel 22 [v]=some y):∃(A:Option Addr) (n c:Nat) (xs:List Int),v = .slice A n c∧n≤maxLen∧IntsAt w A n xs:=by
 rcases open_ints Tryz.underlying22 Tryz.underlying3 (by kernel_rfl) h with ⟨h1,_⟩ | ⟨a,len,cap,zs,h1,_,hl,hm,hsl,_,hc,_⟩
 ·obtain rfl:v = .slice none 0 0:=by simpa using h1
  exact ⟨none,0,0,[],rfl,by unfold maxLen;omega,RowAt.nil w⟩
 ·obtain rfl:v = .slice (some a) len cap:=by simpa using h1
  have hle:len≤zs.length:=by rw [hsl];split <;> omega
  refine ⟨some a,len,cap,zs.take len,rfl,by omega,by simp;omega,fun hn=>?_⟩
  obtain ⟨b,o,rfl⟩:=addr_formM (hc 0 (by omega))
  refine ⟨b,o,rfl,fun j u hu=>?_⟩
  rw [List.getElem?_map] at hu
  obtain ⟨s,hs,rfl⟩:=Option.map_eq_some_iff.1 hu
  have hj:j<len:=by
   rcases Nat.lt_or_ge j len with h | h
   ·exact h
   ·rw [List.getElem?_eq_none (by simp;omega)] at hs;cases hs
  have:=hc j (by omega)
  rw [Addr.add_lit] at this
  rw [this]
  rw [List.getElem?_take_of_lt hj] at hs
  rw [List.getD_eq_getElem?_getD,hs]
  rfl
theorem int_of_trod {v:Value}{y:DataW H × List MemPlace}(h:DataW.trod enc Tryz.prog w base spare held fuel 3 [v]=some y):∃n:Int,v = .int .i64 n ∧ -9223372036854775808≤n∧n≤9223372036854775807:=by
 obtain ⟨n,h1,_,hw⟩:=DataW.trod_int Tryz.underlying3 h
 obtain rfl:v = .int .i64 n:=by simpa using h1
 refine ⟨n,rfl,?_⟩
 simp only [Lit.wf,Bool.and_eq_true,decide_eq_true_eq] at hw
 have h1:(IntKind.i64.min:Int) = -9223372036854775808:=by rfl
 have h2:(IntKind.i64.max:Int)=9223372036854775807:=by rfl
 rw [h1,h2] at hw
 exact hw
set_option maxRecDepth 100000 in
theorem open_dg {r:Reach}{b0:Nat}{v:Value}{d:DataW H}{p:List MemPlace}(hval:Value.okWide Tryz.prog w r b0 24 v)(h:DataW.Trod enc Tryz.prog w base spare held 24 v d p) :
 ∃(A B:Option Addr) (n q cp cq:Nat) (sg mt:List Int) (lp:Int),v = .agg #[.slice A n cp,.slice B q cq,.int .i64 lp]∧n≤maxLen∧q≤maxLen∧IntsAt w A n sg∧IntsAt w B q mt ∧ -9223372036854775808≤lp∧lp≤9223372036854775807:=by
 obtain ⟨cs,rfl,hsz⟩:=okWide_struct Tryz.underlying24 hval
 obtain ⟨fuel,hf⟩:=h
 obtain ⟨c0,c1,c2,rfl⟩:∃c0 c1 c2,cs=#[c0,c1,c2]:=by
  have h3:cs.size=3:=hsz.trans (by kernel_rfl)
  obtain ⟨l⟩:=cs
  match l,h3 with
  | [a,b,c],_=>exact ⟨a,b,c,rfl⟩
 have hf':DataW.trod enc Tryz.prog w base spare held fuel 24 [c0,c1,c2]=some (d,p):=hf
 obtain ⟨xs,n',_,_,_,hxl,hfld⟩:=DataW.trod_struct Tryz.underlying24 hf'
 have c22:Tryz.prog.cellsOf 22=1:=by kernel_rfl
 have c3:Tryz.prog.cellsOf 3=1:=by kernel_rfl
 have g0:DataW.trod enc Tryz.prog w base spare held n' 22 (([c0,c1,c2].drop 0).take (Tryz.prog.cellsOf 22))=xs[0]?:=hfld 0 _ rfl
 have g1:DataW.trod enc Tryz.prog w base spare held n' 22 (([c0,c1,c2].drop 1).take (Tryz.prog.cellsOf 22))=xs[1]?:=hfld 1 _ rfl
 have g2:DataW.trod enc Tryz.prog w base spare held n' 3 (([c0,c1,c2].drop 2).take (Tryz.prog.cellsOf 3))=xs[2]?:=hfld 2 _ rfl
 rw [c22] at g0 g1
 rw [c3] at g2
 simp only [List.drop_zero,List.drop_succ_cons,List.take_succ_cons,List.take_zero] at g0 g1 g2
 have x0:xs[0]? = some (xs[0]'(by rw [hxl];decide)):=List.getElem?_eq_getElem _
 have x1:xs[1]? = some (xs[1]'(by rw [hxl];decide)):=List.getElem?_eq_getElem _
 have x2:xs[2]? = some (xs[2]'(by rw [hxl];decide)):=List.getElem?_eq_getElem _
 rw [x0] at g0
 rw [x1] at g1
 rw [x2] at g2
 obtain ⟨A,n,cp,sg,rfl,hn,hs⟩:=ints_of_trod g0
 obtain ⟨B,q,cq,mt,rfl,hq,hm⟩:=ints_of_trod g1
 obtain ⟨lp,rfl,h1,h2⟩:=int_of_trod g2
 exact ⟨A,B,n,q,cp,cq,sg,mt,lp,rfl,hn,hq,hs,hm,h1,h2⟩
end
end Go.Proofs.YtdgliimmnnhhjaaGreatDoor
end
section
namespace Go.Proofs.YtdgliimmnnhhjaaGreatDoor
open Go Go.ChangeShapes Go.WideShapes Go.ChangeAt Go.RowKit Go.Deep
theorem u8_of {a:Int}(h:(Lit.int .u8 a).wf=true):0≤a∧a<256:=by
 simp only [Lit.wf,Bool.and_eq_true,decide_eq_true_eq] at h
 have h1:(IntKind.u8.min:Int)=0:=by rfl
 have h2:(IntKind.u8.max:Int)=255:=by rfl
 rw [h1,h2] at h
 omega
end Go.Proofs.YtdgliimmnnhhjaaGreatDoor
end
