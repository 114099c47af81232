/-
  The texts Xu, Xv, Xx, Xw, Xy, Dn, Ye, Yh, Ua, Vb.
-/
import Derived.Test.YtdgliimmnnhhjaaGreatDoorU33
import Derived.Test.YtdgliimmnnhhjaaGreatDoorU34
set_option linter.unusedVariables false
set_option linter.unusedSimpArgs false
section
namespace Go.Proofs.YtdgliimmnnhhjaaGreatDoor
open Go Go.RowKit
attribute [local go_sem ↓] Go.wp_at_zero Go.wp_at_succ
section
variable {P:Program} (w:World)
def SrcAt (w:World)(A:Option Addr)(m:Nat)(xs:List Value):Prop:=xs.length=m * 5∧(0<m→∃b o,A=some ⟨b,o,none⟩∧∀(j:Nat) u,xs[j]? = some u→w.cell? ⟨b,o+j,none⟩=some u)∧∀u ∈ xs,u.oneCell'=true
theorem mvs_one (ms:List Mv):∀u ∈ mvs ms,u.oneCell'=true:=by
 intro u hu
 unfold mvs at hu
 obtain ⟨m,_,hm⟩:=List.mem_flatMap.1 hu
 simp only [Mv.cells,List.mem_cons,List.not_mem_nil,or_false] at hm
 rcases hm with rfl | rfl | rfl | rfl | rfl <;> rfl
theorem MovesAt.src {w:World}{v:Value}{ms:List Mv}(h:MovesAt w v ms):∃(A:Option Addr) (c:Nat),v = .slice A ms.length c∧SrcAt w A ms.length (mvs ms):=by
 obtain ⟨base,h⟩:=h
 obtain ⟨A,c,rfl⟩:=owns_slice h
 refine ⟨A,c,rfl,h.1,fun hp=>?_,mvs_one ms⟩
 obtain ⟨g,cap,e,_,hg⟩:=World.ownsRow.form h hp
 injection e with e1 _ _
 subst e1
 refine ⟨g,0,rfl,fun j u hu=>?_⟩
 have hj:j<ms.length * 5:=by
  have:=(List.getElem?_eq_some_iff.1 hu).1
  rw [mvs_len] at this
  exact this
 rw [Nat.zero_add,World.ownsRow.cellAt h j hj]
 exact hu
theorem run_append_src (base:Nat)(t ty e:TypeId)(i:TypeInfo)(z:Value)(bytes:Nat)(ht:P.underlying t=some (.slice e))(hi:P.info? e=some i)(hz:i.zero=some z)
 (hsize:i.size=5) (hby:i.bytes=bytes) (hzs:z.cells.size=5)
 (v:Value) (n:Nat) (xs:List Value) (hown:w.ownsRow base e 5 v n xs)
 (A:Option Addr) (m c:Nat) (ys:List Value) (hin:SrcAt w A m ys)
 (h63:n+m≤maxLen) (hbytes:(n+m) * bytes≤140737488355328) (hbase:base≤w.heap.size) :
 ∃v' w',(Builtin.append_ #[t,t] ty #[v,.slice A m c]).run P w = .ok v' w'∧w'.ownsRow base e 5 v' (n+m) (xs++ys)∧w.grownBy w' v.ownBlock:=by
 have hl:=hin.1
 rcases Nat.eq_zero_or_pos m with h0 | h0
 ·subst h0
  obtain rfl:ys=[]:=List.eq_nil_of_length_eq_zero (by omega)
  have hr:(Builtin.append_ #[t,t] ty #[v,.slice A 0 c]).run P w = .ok v w:=by
   rcases hown.2 with ⟨rfl,rfl⟩ | ⟨g,cap,cur,rfl,_,_,hnc,_⟩
   ·cases A <;> simp [Builtin.append_,run_underlying ht,sizeOf,typeInfo,hi,Builtin.lenOf,Builtin.firstCells,loadCells,loadCellsFrom]
   ·cases A <;> simp [Builtin.append_,run_underlying ht,sizeOf,typeInfo,hi,Builtin.lenOf,Builtin.firstCells,hnc,storeCells,loadCells,loadCellsFrom]
  refine ⟨v,w,hr,by simpa using hown,⟨rfl,rfl,rfl,Nat.le_refl _,fun _ _ _=>rfl⟩⟩
 ·obtain ⟨b,o,rfl,hc⟩:=hin.2.1 h0
  obtain ⟨v',w',hr,h2,h3,_⟩:=run_append_own (P:=P) w base t ty e i z 5 bytes ht hi hz hsize hby hzs (by omega) v n xs hown ⟨b,o,none⟩ m c ys hl (fun j u hu=>by
   have:(⟨b,o,none⟩:Addr).add j=⟨b,o+j,none⟩:=by unfold Addr.add;split <;> simp_all
   rw [this];exact hc j u hu) hin.2.2 h63 hbytes hbase
  exact ⟨v',w',hr,h2,h3⟩
theorem wp_append_src {o:Oper}{a:Act}{K:Act→World→Prop}{Q:Exit→Act→World→Prop}(s x:Operand)(t:TypeId)
 (ho:o.op = .call { callee := .builtin .append,args:=#[s,x],argTypes:=#[t,t] })
 (base:Nat) (e:TypeId) (i:TypeInfo) (z:Value) (bytes:Nat) (ht:P.underlying t=some (.slice e)) (hi:P.info? e=some i) (hz:i.zero=some z)
 (hsize:i.size=5) (hby:i.bytes=bytes) (hzs:z.cells.size=5)
 (v:Value) (n:Nat) (xs:List Value) (hs:a.eval s=v) (hown:w.ownsRow base e 5 v n xs)
 (A:Option Addr) (m c:Nat) (ys:List Value) (hx:a.eval x = .slice A m c) (hin:SrcAt w A m ys)
 (h63:n+m≤maxLen) (hbytes:(n+m) * bytes≤140737488355328) (hbase:base≤w.heap.size)
 (h:∀v' w',w'.ownsRow base e 5 v' (n+m) (xs++ys)→w.grownBy w' v.ownBlock→K (a.put o.dst v') w'):o.wp P a w K Q:=by
 obtain ⟨v',w',hr,h2,h3⟩:=run_append_src (P:=P) w base t o.type e i z bytes ht hi hz hsize hby hzs v n xs hown A m c ys hin h63 hbytes hbase
 unfold Oper.wp execOp
 simp only [ho,resolve,invoke,builtin,Sem.run_bind,Sem.run_pure,Result.andThen_ok,List.map_toArray,List.map_cons,List.map_nil,hs,hx,hr]
 exact h v' w' h2 h3
theorem wpList_append_src {ops:Array Oper}{rest:List Oper}{o:Oper}{a:Act}{Q:Exit→Act→World→Prop}(hgd:o.guard=none)(s x:Operand)(t:TypeId)
 (ho:o.op = .call { callee := .builtin .append,args:=#[s,x],argTypes:=#[t,t] })
 (base:Nat) (e:TypeId) (i:TypeInfo) (z:Value) (bytes:Nat) (ht:P.underlying t=some (.slice e)) (hi:P.info? e=some i) (hz:i.zero=some z)
 (hsize:i.size=5) (hby:i.bytes=bytes) (hzs:z.cells.size=5)
 (v:Value) (n:Nat) (xs:List Value) (hs:a.eval s=v) (hown:w.ownsRow base e 5 v n xs)
 (A:Option Addr) (m c:Nat) (ys:List Value) (hx:a.eval x = .slice A m c) (hin:SrcAt w A m ys)
 (h63:n+m≤maxLen) (hbytes:(n+m) * bytes≤140737488355328) (hbase:base≤w.heap.size)
 (h:∀v' w',w'.ownsRow base e 5 v' (n+m) (xs++ys)→w.grownBy w' v.ownBlock→wpList P ops Q rest (a.put o.dst v') w'):wpList P ops Q (o :: rest) a w :=
 wpList_plain hgd fun _ hK=>wp_append_src w s x t ho base e i z bytes ht hi hz hsize hby hzs v n xs hs hown A m c ys hx hin h63 hbytes hbase fun v' w' h2 h3=>hK _ _ (h v' w' h2 h3)
theorem step_append_src {ops:Array Oper}{o:Oper}{a:Act}{K:Act→World→Prop}{Q:Exit→Act→World→Prop}{E:Prop}(hgd:o.guard=none)(s x:Operand)(t:TypeId)
 (ho:o.op = .call { callee := .builtin .append,args:=#[s,x],argTypes:=#[t,t] })
 (base:Nat) (e:TypeId) (i:TypeInfo) (z:Value) (bytes:Nat) (ht:P.underlying t=some (.slice e)) (hi:P.info? e=some i) (hz:i.zero=some z)
 (hsize:i.size=5) (hby:i.bytes=bytes) (hzs:z.cells.size=5)
 (v:Value) (n:Nat) (xs:List Value) (hs:a.eval s=v) (hown:w.ownsRow base e 5 v n xs)
 (A:Option Addr) (m c:Nat) (ys:List Value) (hx:a.eval x = .slice A m c) (hin:SrcAt w A m ys)
 (h63:n+m≤maxLen) (hbytes:(n+m) * bytes≤140737488355328) (hbase:base≤w.heap.size)
 (h:∀v' w',w'.ownsRow base e 5 v' (n+m) (xs++ys)→w.grownBy w' v.ownBlock→K (a.put o.dst v') w') :
 if Region.wanted o (yielded ops a.tmps)=true then Oper.wp P o a w K Q else E:=by
 have hw:Region.wanted o (yielded ops a.tmps)=true:=by simp [Region.wanted,hgd]
 rw [if_pos hw]
 exact wp_append_src w s x t ho base e i z bytes ht hi hz hsize hby hzs v n xs hs hown A m c ys hx hin h63 hbytes hbase h
end
def cuN (x:Int):List Mv:=[⟨1,x,0,-1,false⟩,⟨1,x,0,-1,true⟩,⟨1,x,0,1,false⟩,⟨1,x,0,1,true⟩]
def cuC:Nat→List Mv
 | 0=>[]
 | k+1=>cuC k++cuN ((k:Int) - 1)
def unC:Nat→List Mv
 | 0=>[]
 | k+1=>unC k++[⟨2,k,0,0,false⟩]
def pkN (x y:Int):Nat→List Mv
 | 0=>[]
 | j+1=>pkN x y j++[⟨3,x,y,(j:Int) - 1,false⟩,⟨3,x,y,(j:Int) - 1,true⟩]
def pkNY (x:Int):Nat→List Mv
 | 0=>[]
 | k+1=>pkNY x k++pkN x ((k:Int) - 2) 3
def pkNX (n:Nat):Nat→List Mv
 | 0=>[]
 | k+1=>pkNX n k++pkNY ((k:Int) - 2) (4 * n+2)
def upN (x:Nat):Nat→List Mv
 | 0=>[]
 | k+1=>upN x k++(if x<k then [⟨4,x,k,0,false⟩] else [])
def upNX (n:Nat):Nat→List Mv
 | 0=>[]
 | k+1=>upNX n k++upN k n
noncomputable def sel (d:Pl.Dg)(l:List Mv):List Mv:=l.flatMap (fun m=>one (apC d m) m)
theorem sel_nil (d:Pl.Dg):sel d []=[]:=rfl
theorem sel_app (d:Pl.Dg)(l r:List Mv):sel d (l++r)=sel d l++sel d r:=by unfold sel;rw [List.flatMap_append]
theorem sel_cons (d:Pl.Dg)(m:Mv)(l:List Mv):sel d (m :: l)=one (apC d m) m++sel d l:=by unfold sel;rw [List.flatMap_cons]
theorem mem_one {c:Int}{m z:Mv}:z ∈ one c m↔z=m∧c=0:=by
 unfold one
 split
 ·rename_i h;simp [h]
 ·rename_i h;simp [h]
theorem mem_sel {d:Pl.Dg}{l:List Mv}{z:Mv}:z ∈ sel d l↔z ∈ l∧apC d z=0:=by
 unfold sel
 rw [List.mem_flatMap]
 constructor
 ·rintro ⟨m,h1,h2⟩
  obtain ⟨rfl,h3⟩:=mem_one.1 h2
  exact ⟨h1,h3⟩
 ·rintro ⟨h1,h2⟩
  exact ⟨z,h1,mem_one.2 ⟨rfl,h2⟩⟩
theorem sel_len (d:Pl.Dg):∀l,(sel d l).length≤l.length
 | []=>Nat.le_refl _
 | m :: l => by
   have a:=sel_len d l
   have b:=one_len (apC d m) m
   rw [sel_cons,List.length_append,List.length_cons]
   omega
theorem apC_in {d:Pl.Dg}{m:Mv}(hk:1≤m.kind∧m.kind≤5)(hin:inR d.n m):apC d m=if m.kind=1 then curlableC d m.x else if m.kind=2 then uncC d m.x.toNat else if m.kind=3 then pkQ d m.x m.y m.sign else if m.kind=4 then unpC d m.x.toNat m.y.toNat else sldC d m.x.toNat:=by
 unfold apC
 rw [if_neg (by omega),if_neg (by rw [Pl.vb_true hin];decide)]
theorem apC_out {d:Pl.Dg}{m:Mv}(hk:1≤m.kind∧m.kind≤5)(hin:¬inR d.n m):apC d m=2:=by
 unfold apC
 rw [if_neg (by omega),if_pos (Pl.vb_false hin)]
theorem cu_code {d:Pl.Dg}{x s:Int}{o:Bool}(hx:-1≤x∧x<4 * (d.n:Int))(hs:s=1∨s = -1):apC d ⟨1,x,0,s,o⟩=curlableC d x:=by
 rw [apC_in (by simp) (by unfold inR;simp;omega)]
 simp
theorem un_code {d:Pl.Dg}{c:Nat}(hc:c<d.n):apC d ⟨2,c,0,0,false⟩=uncC d c:=by
 rw [apC_in (by simp) (by unfold inR;simp;omega)]
 simp
theorem up_code {d:Pl.Dg}{x y:Nat}(hx:x<y)(hy:y<d.n):apC d ⟨4,x,y,0,false⟩=unpC d x y:=by
 rw [apC_in (by simp) (by unfold inR;simp;omega)]
 simp
theorem pk_code {d:Pl.Dg}{F P:List Nat}(hF:∀x y,x<4 * d.n→y<4 * d.n→(F.getD x 0=F.getD y 0↔Pl.Orb (Pl.nx d) x y))(hP:∀x y,x<d.n→y<d.n→(P.getD x 0=P.getD y 0↔Pl.Comp d x y)){x y s:Int}{o:Bool}(hx:x<4 * d.n)(hy:y<4 * d.n):apC d ⟨3,x,y,s,o⟩=pkA d F P x y s o:=by
 unfold pkA
 by_cases hin:inR d.n ⟨3,x,y,s,o⟩
 ·rw [apC_in (by simp) hin,if_pos (Pl.vb_true hin),pkC_eq hF hP hx hy]
  simp
 ·rw [apC_out (by simp) hin,if_neg (by rw [Pl.vb_false hin];decide)]
theorem cu_sel (d:Pl.Dg):∀k,k≤4 * d.n+1→cuL d k=sel d (cuC k)
 | 0,_=>rfl
 | k + 1, h => by
   show cuL d k++cuX d ((k:Int) - 1)=sel d (cuC k++cuN ((k:Int) - 1))
   rw [sel_app,cu_sel d k (by omega)]
   congr 1
   unfold cuX cuN
   simp only [sel_cons,sel_nil]
   rw [cu_code (by omega) (.inr rfl),cu_code (by omega) (.inr rfl),cu_code (by omega) (.inl rfl),cu_code (by omega) (.inl rfl)]
   simp
theorem un_sel (d:Pl.Dg):∀k,k≤d.n→unL d k=sel d (unC k)
 | 0,_=>rfl
 | k + 1, h => by
   show unL d k++one (uncC d k) ⟨2,k,0,0,false⟩=sel d (unC k++[⟨2,k,0,0,false⟩])
   rw [sel_app,un_sel d k (by omega),sel_cons,sel_nil,un_code (by omega),List.append_nil]
theorem upY_sel (d:Pl.Dg)(x:Nat):∀k,k≤d.n→upY d x k=sel d (upN x k)
 | 0,_=>rfl
 | k + 1, h => by
   show upY d x k++(if x<k then one (unpC d x k) ⟨4,x,k,0,false⟩ else [])=sel d (upN x k++(if x<k then [⟨4,x,k,0,false⟩] else []))
   rw [sel_app,upY_sel d x k (by omega)]
   congr 1
   split
   ·rename_i hx;rw [sel_cons,sel_nil,up_code hx (by omega),List.append_nil]
   ·rfl
theorem up_sel (d:Pl.Dg):∀k,upX d k=sel d (upNX d.n k)
 | 0=>rfl
 | k + 1 => by
   show upX d k++upY d k d.n=sel d (upNX d.n k++upN k d.n)
   rw [sel_app,up_sel d k,upY_sel d k d.n (Nat.le_refl _)]
section
variable {d:Pl.Dg} {F P:List Nat}
theorem pkS_sel (hF:∀x y,x<4 * d.n→y<4 * d.n→(F.getD x 0=F.getD y 0↔Pl.Orb (Pl.nx d) x y))(hP:∀x y,x<d.n→y<d.n→(P.getD x 0=P.getD y 0↔Pl.Comp d x y)){x y:Int}(hx:x<4 * d.n)(hy:y<4 * d.n):∀k,pkS d F P x y k=sel d (pkN x y k)
 | 0=>rfl
 | k + 1 => by
   show pkS d F P x y k++(one (pkA d F P x y ((k:Int) - 1) false) ⟨3,x,y,(k:Int) - 1,false⟩++one (pkA d F P x y ((k:Int) - 1) true) ⟨3,x,y,(k:Int) - 1,true⟩)=sel d (pkN x y k++[⟨3,x,y,(k:Int) - 1,false⟩,⟨3,x,y,(k:Int) - 1,true⟩])
   rw [sel_app,pkS_sel hF hP hx hy k,sel_cons,sel_cons,sel_nil,pk_code hF hP hx hy,pk_code hF hP hx hy,List.append_nil]
theorem pkY_sel (hF:∀x y,x<4 * d.n→y<4 * d.n→(F.getD x 0=F.getD y 0↔Pl.Orb (Pl.nx d) x y))(hP:∀x y,x<d.n→y<d.n→(P.getD x 0=P.getD y 0↔Pl.Comp d x y)){x:Int}(hx:x<4 * d.n):∀k,k≤4 * d.n+2→pkY d F P x k=sel d (pkNY x k)
 | 0,_=>rfl
 | k + 1, h => by
   show pkY d F P x k++pkS d F P x ((k:Int) - 2) 3=sel d (pkNY x k++pkN x ((k:Int) - 2) 3)
   rw [sel_app,pkY_sel hF hP hx k (by omega),pkS_sel hF hP hx (by omega)]
theorem pkX_sel (hF:∀x y,x<4 * d.n→y<4 * d.n→(F.getD x 0=F.getD y 0↔Pl.Orb (Pl.nx d) x y))(hP:∀x y,x<d.n→y<d.n→(P.getD x 0=P.getD y 0↔Pl.Comp d x y)):∀k,k≤4 * d.n+2→pkX d F P k=sel d (pkNX d.n k)
 | 0,_=>rfl
 | k + 1, h => by
   show pkX d F P k++pkY d F P ((k:Int) - 2) (4 * d.n+2)=sel d (pkNX d.n k++pkNY ((k:Int) - 2) (4 * d.n+2))
   rw [sel_app,pkX_sel hF hP k (by omega),pkY_sel hF hP (by omega) _ (Nat.le_refl _)]
end
theorem pkNY_kind {x:Int}:∀{k:Nat} {z:Mv},z ∈ pkNY x k→z.kind=3
 | 0,z,h=>by cases h
 | k + 1, z, h => by
   have h:z ∈ pkNY x k++pkN x ((k:Int) - 2) 3:=h
   rw [List.mem_append] at h
   rcases h with h | h
   ·exact pkNY_kind h
   ·simp only [pkN,List.mem_append,List.mem_cons,List.not_mem_nil,or_false,false_or] at h
    rcases h with ((rfl | rfl) | rfl | rfl) | rfl | rfl <;> rfl
theorem pkNX_kind {n:Nat}:∀{k:Nat} {z:Mv},z ∈ pkNX n k→z.kind=3
 | 0,z,h=>by cases h
 | k + 1, z, h => by
   have h:z ∈ pkNX n k++pkNY ((k:Int) - 2) (4 * n+2):=h
   rw [List.mem_append] at h
   rcases h with h | h
   ·exact pkNX_kind h
   ·exact pkNY_kind h
theorem pk_full {d:Pl.Dg}(h:64<d.n+2)(k:Nat):sel d (pkNX d.n k)=[]:=by
 refine List.eq_nil_iff_forall_not_mem.2 fun z hz=>?_
 obtain ⟨h1,h2⟩:=mem_sel.1 hz
 have hk:=pkNX_kind h1
 by_cases hin:inR d.n z
 ·rw [apC_in (by omega) hin,if_neg (by omega),if_neg (by omega),if_pos hk] at h2
  unfold pkQ at h2
  rw [if_pos h] at h2
  split at h2
  ·cases h2
  ·split at h2 <;> cases h2
 ·rw [apC_out (by omega) hin] at h2
  cases h2
noncomputable def remL (d:Pl.Dg):List Mv:=sel d (unC d.n)++sel d (upNX d.n d.n)
noncomputable def allL (d:Pl.Dg):List Mv:=sel d (cuC (4 * d.n+1))++sel d (unC d.n)++sel d (pkNX d.n (4 * d.n+2))++sel d (upNX d.n d.n)++slL d (4 * d.n)
end Go.Proofs.YtdgliimmnnhhjaaGreatDoor
end
section
namespace Go.Proofs.YtdgliimmnnhhjaaGreatDoor
open Go Go.RowKit
attribute [local go_sem ↓] Go.wp_at_zero Go.wp_at_succ
theorem mvs_apps (ms r:List Mv):mvs (ms++r)=mvs ms++mvs r:=by unfold mvs;rw [List.flatMap_append]
structure AL (w:World) (dv:List Value) (b:Nat) (v:Value) (ms:List Mv) (W:World):Prop where
 d:Row W w.heap.size 24 dv
 o:W.ownsRow b 43 5 v ms.length (mvs ms)
 bel:Below w.heap.size w W
 lo:w.heap.size<b
 lo2:b≤W.heap.size
section
variable {w W W' W2:World} {dv:List Value} {b:Nat} {v v':Value} {ms r:List Mv}
theorem AL.below (h:AL w dv b v ms W)(hb:Below W.heap.size W W'):AL w dv b v ms W' :=
 ⟨h.d.below hb,own_below h.o hb,h.bel.trans (hb.mono h.bel.size),h.lo,Nat.le_trans h.lo2 hb.size⟩
theorem AL.far (h:AL w dv b v ms W):some w.heap.size≠v.ownBlock:=fun e=>by have:=(h.o.lt _ e.symm).1;have:=h.lo;omega
theorem AL.app (h:AL w dv b v ms W)(own:W2.ownsRow b 43 5 v' (ms.length+r.length) (mvs ms++mvs r))(gr:W.grownBy W2 v.ownBlock):AL w dv b v' (ms++r) W2:=by
 refine ⟨h.d.grown gr h.far,?_,h.bel.grown gr h.bel.size (fun k hk=>by have:=(h.o.lt k hk).1;have:=h.lo;omega),h.lo,Nat.le_trans h.lo2 gr.size⟩
 rw [mvs_apps,List.length_append]
 exact own
end
theorem cu_le {d:Pl.Dg}(hn:d.n≤64):(sel d (cuC (4 * d.n+1))).length≤1028:=by
 have a:=cuL_len d (4 * d.n+1)
 rw [cu_sel d _ (Nat.le_refl _)] at a
 omega
theorem un_le {d:Pl.Dg}(hn:d.n≤64):(sel d (unC d.n)).length≤64:=by
 have a:=unL_len d d.n
 rw [un_sel d _ (Nat.le_refl _)] at a
 omega
theorem up_le {d:Pl.Dg}(hn:d.n≤64):(sel d (upNX d.n d.n)).length≤4096:=by
 have a:=upX_len hn d.n
 rw [up_sel d _] at a
 omega
theorem pk_all {d:Pl.Dg}(hn:d.n≤64){F P:List Nat}(hF:∀x y,x<4 * d.n→y<4 * d.n→(F.getD x 0=F.getD y 0↔Pl.Orb (Pl.nx d) x y))(hP:∀x y,x<d.n→y<d.n→(P.getD x 0=P.getD y 0↔Pl.Comp d x y)) :
 (if 64<d.n+2 then [] else pkX d F P (4 * d.n+2))=sel d (pkNX d.n (4 * d.n+2))∧(sel d (pkNX d.n (4 * d.n+2))).length≤399384:=by
 have a:=pkX_len hn F P (4 * d.n+2)
 rw [pkX_sel hF hP _ (Nat.le_refl _)] at a
 refine ⟨?_,by omega⟩
 split
 ·rename_i h
  rw [pk_full h]
 ·exact pkX_sel hF hP _ (Nat.le_refl _)
set_option maxRecDepth 100000 in
set_option maxHeartbeats 8000000 in
theorem All_any (d:Pl.Dg)(hd:Pl.Valid d)(A B:Option Addr)(cp cq m:Nat)(w:World)(hm:m=4 * d.n)(hg:DgAt w A B d) :
 Calls Tryz.prog 40 #[.agg #[.slice A d.n cp,.slice B m cq,.int .i64 d.lp]] w fun e w'=>∃v,e = .returned v∧MovesIn w.heap.size w' v (allL d)∧Below w.heap.size w w':=by
 have HM:=hide hm
 have HG:=hide hg
 have HW:=hide (Pl.Valid.iff.1 hd).1
 have hn:=hd.wf.few
 clear hg hm
 have R0:=hide (row_at (W:=w) (g:=w.heap.size) (t:=24) (vs:=[.slice A d.n cp,.slice B m cq,.int .i64 (d.lp:Int)]) rfl)
 have B0:=hide (show Below w.heap.size w (w.alloc (.cells #[.slice A d.n cp,.slice B m cq,.int .i64 (d.lp:Int)] 24)) from (Below.refl _ _).alloc (Nat.le_refl _) _)
 go_enter Tryz.func40,Tryz.ntmps40
 go_wp2_with fail
 refine (valid_yes d hd A B cp cq m _ HM.out (HG.out.keep B0.out)).mono ?_
 rintro e w1 ⟨rfl,hb1⟩
 have R1:=hide (R0.out.below hb1)
 have B1:=hide (B0.out.trans (hb1.mono B0.out.size))
 clear hb1
 obtain ⟨d0,d1,d2,d3⟩:=box3 R1.out
 go_wp2_with fail
 refine (curls_any d HW.out A B cp cq m _ HM.out (HG.out.keep B1.out)).mono ?_
 rintro e w2 ⟨v2,rfl,⟨b,hlb,hlb2,own2⟩,hb2⟩
 have hw1:w.heap.size<w1.heap.size:=R1.out.lt
 have Q2:=hide (show AL w [.slice A d.n cp,.slice B m cq,.int .i64 (d.lp:Int)] b v2 (sel d (cuC (4 * d.n+1))) w2 from
  ⟨R1.out.below hb2,by rw [HM.out] at own2;rw [cu_sel d _ (Nat.le_refl _)] at own2;exact own2,B1.out.trans (hb2.mono B1.out.size),by omega,hlb2⟩)
 clear hb2 own2 R1 B1 R0 B0 d0 d1 d2 d3
 obtain ⟨d0,d1,d2,d3⟩:=box3 Q2.out.d
 go_wp2_with fail
 refine (uncurls_any d HW.out A B cp cq m _ HM.out (HG.out.keep Q2.out.bel)).mono ?_
 rintro e w3 ⟨v3,rfl,hv3,hb3⟩
 rw [un_sel d _ (Nat.le_refl _)] at hv3
 obtain ⟨A3,c3,rfl,src3⟩:=hv3.at.src
 have Q3:=hide (Q2.out.below hb3)
 have S3:=hide src3
 have lcu:=cu_le (d:=d) hn
 have lun:=un_le (d:=d) hn
 have lup:=up_le (d:=d) hn
 have B3:(sel d (cuC (4 * d.n+1))).length+(sel d (unC d.n)).length≤maxLen:=by unfold maxLen;omega
 have C3:((sel d (cuC (4 * d.n+1))).length+(sel d (unC d.n)).length) * 40≤140737488355328:=by omega
 have D3:b≤w3.heap.size:=Q3.out.lo2
 obtain ⟨n0,hn0,hz0,hz1,hz2⟩:=info_parts moveInfo
 clear hb3 hv3 src3 d0 d1 d2 d3 Q2
 go_wp2_with (at_builtin;refine wpList_append_src _ (by rfl) _ _ 39 (by rfl) b 43 n0 (.agg #[.int .i64 0,.int .i64 0,.int .i64 0,.int .i64 0,.bool false]) 40 Tryz.underlying39 hn0 hz0 hz1 hz2 rfl v2 _ _ (by rfl) Q3.out.o A3 _ c3 _ (by rfl) S3.out B3 C3 D3 ?_;intro v4 w4 own4 grow4;obtain ⟨d0,d1,d2,d3⟩:=box3 (Q3.out.app own4 grow4).d;have Q4:=hide (Q3.out.app own4 grow4);clear own4 grow4)
 clear Q3 S3 B3 C3 D3
 refine (survey_any d hd A B cp cq m _ HM.out (HG.out.keep Q4.out.bel)).mono ?_
 rintro e w5 ⟨L,R,cl,cr,F,P,he,hsh,hF,hP,hb5⟩
 have Q5:=hide (Q4.out.below hb5)
 have HSH:=hide hsh
 obtain ⟨pe,pl⟩:=pk_all hn hF hP
 have PE:=hide pe
 rw [←HM.out] at he
 unfold sheetV at he
 subst he
 have hb5s:=hb5.size
 clear hb5 hsh hF hP pe d0 d1 d2 d3 Q4
 obtain ⟨d0,d1,d2,d3⟩:=box3 Q5.out.d
 go_wp2_with fail
 refine (pokes_any d HW.out F P A B L R cp cq cl cr m _ HM.out HSH.out).mono ?_
 rintro e w6 ⟨v6,rfl,hv6,hb6⟩
 rw [HM.out,PE.out] at hv6
 obtain ⟨A6,c6,rfl,src6⟩:=hv6.at.src
 have Q6:=hide (Q5.out.below hb6)
 have S6:=hide src6
 have B6:(sel d (cuC (4 * d.n+1))++sel d (unC d.n)).length+(sel d (pkNX d.n (4 * d.n+2))).length≤maxLen:=by unfold maxLen;rw [List.length_append];omega
 have C6:((sel d (cuC (4 * d.n+1))++sel d (unC d.n)).length+(sel d (pkNX d.n (4 * d.n+2))).length) * 40≤140737488355328:=by rw [List.length_append];omega
 have D6:b≤w6.heap.size:=Q6.out.lo2
 clear hb6 hv6 src6 d0 d1 d2 d3 Q5 HSH PE
 go_wp2_with (at_builtin;refine wpList_append_src _ (by rfl) _ _ 39 (by rfl) b 43 n0 (.agg #[.int .i64 0,.int .i64 0,.int .i64 0,.int .i64 0,.bool false]) 40 Tryz.underlying39 hn0 hz0 hz1 hz2 rfl v4 _ _ (by rfl) Q6.out.o A6 _ c6 _ (by rfl) S6.out B6 C6 D6 ?_;intro v7 w7 own7 grow7;obtain ⟨d0,d1,d2,d3⟩:=box3 (Q6.out.app own7 grow7).d;have Q7:=hide (Q6.out.app own7 grow7);clear own7 grow7)
 clear Q6 S6 B6 C6 D6
 refine (unpokes_any d HW.out A B cp cq m _ HM.out (HG.out.keep Q7.out.bel)).mono ?_
 rintro e w8 ⟨v8,rfl,hv8,hb8⟩
 rw [up_sel] at hv8
 obtain ⟨A8,c8,rfl,src8⟩:=hv8.at.src
 have Q8:=hide (Q7.out.below hb8)
 have S8:=hide src8
 have B8:(sel d (cuC (4 * d.n+1))++sel d (unC d.n)++sel d (pkNX d.n (4 * d.n+2))).length+(sel d (upNX d.n d.n)).length≤maxLen:=by unfold maxLen;simp only [List.length_append];omega
 have C8:((sel d (cuC (4 * d.n+1))++sel d (unC d.n)++sel d (pkNX d.n (4 * d.n+2))).length+(sel d (upNX d.n d.n)).length) * 40≤140737488355328:=by simp only [List.length_append];omega
 have D8:b≤w8.heap.size:=Q8.out.lo2
 clear hb8 hv8 src8 d0 d1 d2 d3 Q7
 go_wp2_with (at_builtin;refine wpList_append_src _ (by rfl) _ _ 39 (by rfl) b 43 n0 (.agg #[.int .i64 0,.int .i64 0,.int .i64 0,.int .i64 0,.bool false]) 40 Tryz.underlying39 hn0 hz0 hz1 hz2 rfl v7 _ _ (by rfl) Q8.out.o A8 _ c8 _ (by rfl) S8.out B8 C8 D8 ?_;intro v9 w9 own9 grow9;obtain ⟨d0,d1,d2,d3⟩:=box3 (Q8.out.app own9 grow9).d;have Q9:=hide (Q8.out.app own9 grow9);clear own9 grow9)
 clear Q8 S8 B8 C8 D8
 refine (slides_any d HW.out A B cp cq m _ HM.out (HG.out.keep Q9.out.bel)).mono ?_
 rintro e w10 ⟨v10,rfl,hv10,hb10⟩
 rw [HM.out] at hv10
 have lsl:=slL_len d (4 * d.n)
 obtain ⟨A10,c10,rfl,src10⟩:=hv10.src
 have Q10:=hide (Q9.out.below hb10)
 have S10:=hide src10
 have B10:(sel d (cuC (4 * d.n+1))++sel d (unC d.n)++sel d (pkNX d.n (4 * d.n+2))++sel d (upNX d.n d.n)).length+(slL d (4 * d.n)).length≤maxLen:=by unfold maxLen;simp only [List.length_append];omega
 have C10:((sel d (cuC (4 * d.n+1))++sel d (unC d.n)++sel d (pkNX d.n (4 * d.n+2))++sel d (upNX d.n d.n)).length+(slL d (4 * d.n)).length) * 40≤140737488355328:=by simp only [List.length_append];omega
 have D10:b≤w10.heap.size:=Q10.out.lo2
 clear hb10 hv10 src10 d0 d1 d2 d3 Q9
 go_wp2_with (at_builtin;refine wpList_append_src _ (by rfl) _ _ 39 (by rfl) b 43 n0 (.agg #[.int .i64 0,.int .i64 0,.int .i64 0,.int .i64 0,.bool false]) 40 Tryz.underlying39 hn0 hz0 hz1 hz2 rfl v9 _ _ (by rfl) Q10.out.o A10 _ c10 _ (by rfl) S10.out B10 C10 D10 ?_;intro v11 w11 own11 grow11;obtain ⟨d0,d1,d2,d3⟩:=box3 (Q10.out.app own11 grow11).d;have Q11:=hide (Q10.out.app own11 grow11);clear own11 grow11)
 go_ret
 exact ⟨v11,rfl,⟨b,by have:=Q11.out.lo;omega,Q11.out.lo2,Q11.out.o⟩,Q11.out.bel⟩
end Go.Proofs.YtdgliimmnnhhjaaGreatDoor
end
section
namespace Go.Proofs.YtdgliimmnnhhjaaGreatDoor
open Go Go.RowKit
attribute [local go_sem ↓] Go.wp_at_zero Go.wp_at_succ
theorem mv_get:∀(ms:List Mv) (j:Nat) (z:Mv),ms[j]? = some z→∀(i:Nat) (u:Value),z.cells[i]? = some u→(mvs ms)[j * 5+i]? = some u
 | [],j,z,h,_,_,_=>by cases h
 | m :: ms, 0, z, h, i, u, hu => by
   obtain rfl:m=z:=by simpa using h
   have hi:i<m.cells.length:=(List.getElem?_eq_some_iff.1 hu).1
   show (m.cells++mvs ms)[0 * 5+i]? = some u
   rw [Nat.zero_mul,Nat.zero_add,List.getElem?_append_left hi,hu]
 | m :: ms, j + 1, z, h, i, u, hu => by
   have ih:=mv_get ms j z (by simpa using h) i u hu
   show (m.cells++mvs ms)[(j+1) * 5+i]? = some u
   have e:m.cells.length=5:=rfl
   rw [List.getElem?_append_right (by rw [e];omega),e,←ih]
   congr 1
   omega
theorem mv_val {w:World}{v:Value}{ms:List Mv}(h:MovesAt w v ms):∃(A:Option Addr) (c:Nat),v = .slice A ms.length c∧(0<ms.length→∃g,A=some ⟨g,0,none⟩∧g<w.heap.size∧∀(j:Nat) (z:Mv),ms[j]? = some z→∀(i:Nat) (u:Value),z.cells[i]? = some u→w.cell? ⟨g,j * 5+i,none⟩=some u):=by
 obtain ⟨base,h⟩:=h
 obtain ⟨A,c,rfl⟩:=owns_slice h
 refine ⟨A,c,rfl,fun hp=>?_⟩
 obtain ⟨g,cap,e,_,hg⟩:=World.ownsRow.form h hp
 injection e with e1 _ _
 subst e1
 refine ⟨g,rfl,hg,fun j z hz i u hu=>?_⟩
 have hj:j<ms.length:=(List.getElem?_eq_some_iff.1 hz).1
 have hi:i<5:=(List.getElem?_eq_some_iff.1 hu).1
 rw [World.ownsRow.cellAt h (j * 5+i) (by omega)]
 exact mv_get ms j z hz i u hu
def MovesV (w:World)(A:Option Addr)(n:Nat)(ms:List Mv):Prop:=n=ms.length∧(0<n→∃g,A=some ⟨g,0,none⟩∧g<w.heap.size∧∀(j:Nat) (z:Mv),ms[j]? = some z→∀(i:Nat) (u:Value),z.cells[i]? = some u→w.cell? ⟨g,j * 5+i,none⟩=some u)
theorem MovesV.keep {w w':World}{A:Option Addr}{n:Nat}{ms:List Mv}(h:MovesV w A n ms)(hb:Below w.heap.size w w'):MovesV w' A n ms :=
 ⟨h.1,fun hp=>let ⟨g,e,hl,hc⟩:=h.2 hp;⟨g,e,Nat.lt_of_lt_of_le hl hb.size,fun j z hz i u hu=>cell_below (hc j z hz i u hu) hb⟩⟩
theorem MovesAt.mv {w:World}{v:Value}{ms:List Mv}(h:MovesAt w v ms):∃(A:Option Addr) (c:Nat),v = .slice A ms.length c∧MovesV w A ms.length ms:=by
 obtain ⟨A,c,e,h2⟩:=mv_val h
 exact ⟨A,c,e,rfl,h2⟩
theorem MovesV.at_ {w:World}{A:Option Addr}{n j:Nat}{ms:List Mv}(h:MovesV w A n ms)(hj:j<n):∃g k x y s o,A=some ⟨g,0,none⟩∧g<w.heap.size∧ms[j]? = some ⟨k,x,y,s,o⟩∧w.cell? ⟨g,j * 5,none⟩=some (.int .i64 k)∧w.cell? ⟨g,j * 5+1,none⟩=some (.int .i64 x)∧w.cell? ⟨g,j * 5+2,none⟩=some (.int .i64 y)∧w.cell? ⟨g,j * 5+3,none⟩=some (.int .i64 s)∧w.cell? ⟨g,j * 5+4,none⟩=some (.bool o):=by
 obtain ⟨g,e,hl,hc⟩:=h.2 (by omega)
 obtain ⟨z,hz⟩:∃z,ms[j]? = some z:=⟨_,List.getElem?_eq_getElem (by rw [←h.1];exact hj)⟩
 obtain ⟨k,x,y,s,o⟩:=z
 exact ⟨g,k,x,y,s,o,e,hl,hz,hc j _ hz 0 _ rfl,hc j _ hz 1 _ rfl,hc j _ hz 2 _ rfl,hc j _ hz 3 _ rfl,hc j _ hz 4 _ rfl⟩
def eqM (a b:Mv):Bool:=a.kind == b.kind && a.x == b.x && a.y == b.y && a.sign == b.sign && a.over == b.over
set_option maxRecDepth 100000 in
set_option maxHeartbeats 4000000 in
theorem Removing_any (d:Pl.Dg)(hd:Pl.Valid d)(A B:Option Addr)(cp cq m:Nat)(w:World)(hm:m=4 * d.n)(hg:DgAt w A B d) :
 Calls Tryz.prog 37 #[.agg #[.slice A d.n cp,.slice B m cq,.int .i64 d.lp]] w fun e w'=>∃v,e = .returned v∧MovesIn w.heap.size w' v (remL d)∧Below w.heap.size w w':=by
 have HM:=hide hm
 have HG:=hide hg
 have HW:=hide (Pl.Valid.iff.1 hd).1
 have hn:=hd.wf.few
 clear hg hm
 have R0:=hide (row_at (W:=w) (g:=w.heap.size) (t:=24) (vs:=[.slice A d.n cp,.slice B m cq,.int .i64 (d.lp:Int)]) rfl)
 have B0:=hide (show Below w.heap.size w (w.alloc (.cells #[.slice A d.n cp,.slice B m cq,.int .i64 (d.lp:Int)] 24)) from (Below.refl _ _).alloc (Nat.le_refl _) _)
 go_enter Tryz.func37,Tryz.ntmps37
 go_wp2_with fail
 refine (valid_yes d hd A B cp cq m _ HM.out (HG.out.keep B0.out)).mono ?_
 rintro e w1 ⟨rfl,hb1⟩
 have R1:=hide (R0.out.below hb1)
 have B1:=hide (B0.out.trans (hb1.mono B0.out.size))
 clear hb1
 obtain ⟨d0,d1,d2,d3⟩:=box3 R1.out
 go_wp2_with fail
 have lun:=un_le (d:=d) hn
 have lup:=up_le (d:=d) hn
 have B3:(sel d (unC d.n)).length+(sel d (upNX d.n d.n)).length≤maxLen:=by unfold maxLen;omega
 have C3:((sel d (unC d.n)).length+(sel d (upNX d.n d.n)).length) * 40≤140737488355328:=by omega
 obtain ⟨n0,hn0,hz0,hz1,hz2⟩:=info_parts moveInfo
 have hw1:w.heap.size<w1.heap.size:=R1.out.lt
 have HG1:=hide (show DgAt w1.drew A B d from ⟨(HG.out.keep B1.out).s,(HG.out.keep B1.out).m⟩)
 go_region_law
  (first
    | (refine step_append_src _ ?_ (.tmp 7) (.tmp 9) 39 ?_ b 43 n0 (.agg #[.int .i64 0, .int .i64 0, .int .i64 0, .int .i64 0, .bool false]) 40 Tryz.underlying39 hn0 hz0 hz1 hz2 rfl v3 _ _ ?_ Q4.out.o A4 _ c4 _ ?_ S4.out B3 C3 Q4.out.lo2 ?_
       ·rfl
       ·rfl
       ·rfl
       ·rfl
       intro v5 w5 own5 grow5
       have Q5:=hide (Q4.out.app own5 grow5)
       clear own5 grow5)
    | (go_simp
       go_wp2_with (first
        | ((go_at_call 63);refine Calls.mono (uncurls_any d HW.out A B cp cq m _ HM.out HG1.out) ?_;rintro e w3 ⟨v3,rfl,⟨b,hlb,hlb2,own3⟩,hb3⟩;rw [un_sel d _ (Nat.le_refl _)] at own3;have Q3:=hide (show AL w [.slice A d.n cp,.slice B m cq,.int .i64 (d.lp:Int)] b v3 (sel d (unC d.n)) w3 from ⟨R1.out.drew.below hb3,own3,B1.out.drew.trans (hb3.mono B1.out.size),Nat.lt_of_lt_of_le hw1 hlb,hlb2⟩);obtain ⟨e0,e1,e2,e3⟩:=box3 Q3.out.d;clear own3 hb3)
        | ((go_at_call 64);refine Calls.mono (unpokes_any d HW.out A B cp cq m _ HM.out (HG.out.keep Q3.out.bel)) ?_;rintro e w4 ⟨v4,rfl,hv4,hb4⟩;rw [up_sel] at hv4;obtain ⟨A4,c4,rfl,src4⟩:=hv4.at.src;have Q4:=hide (Q3.out.below hb4);have S4:=hide src4;clear hb4 hv4 src4))))
 all_goals
  go_wp2
  go_ret
  exact ⟨v5,rfl,⟨b,by have:=Q5.out.lo;omega,Q5.out.lo2,Q5.out.o⟩,Q5.out.bel⟩
end Go.Proofs.YtdgliimmnnhhjaaGreatDoor
end
section
namespace Go.Proofs.YtdgliimmnnhhjaaGreatDoor
open Go Go.RowKit
theorem mem_cuC {n:Nat}{z:Mv}:∀k,k≤4 * n+1→(z ∈ cuC k↔z.kind=1∧inR n z∧z.x<(k:Int) - 1)
 | 0, _ => by
   constructor
   ·intro h;cases h
   ·rintro ⟨h1,h2,h3⟩
    unfold inR at h2
    rw [if_pos h1] at h2
    omega
 | k + 1, h => by
   show z ∈ cuC k++cuN ((k:Int) - 1)↔_
   rw [List.mem_append,mem_cuC (n:=n) k (by omega)]
   obtain ⟨zk,zx,zy,zs,zo⟩:=z
   constructor
   ·rintro (⟨h1,h2,h3⟩ | h1)
    ·exact ⟨h1,h2,by simp only at h3 ⊢;omega⟩
    ·unfold cuN at h1
     simp only [List.mem_cons,List.not_mem_nil,or_false,Mv.mk.injEq] at h1
     unfold inR
     refine ⟨by simp only;omega,?_,by simp only;omega⟩
     rw [if_pos (by simp only;omega)]
     simp only
     omega
   ·rintro ⟨h1,h2,h3⟩
    by_cases hx:zx<(k:Int) - 1
    ·exact .inl ⟨h1,h2,hx⟩
    ·right
     unfold inR at h2
     rw [if_pos h1] at h2
     simp only at h1 h2 h3
     unfold cuN
     simp only [List.mem_cons,List.not_mem_nil,or_false,Mv.mk.injEq]
     have hx2:zx=(k:Int) - 1:=by omega
     cases zo <;> simp <;> omega
theorem mem_unC {n:Nat}{z:Mv}:∀k,k≤n→(z ∈ unC k↔z.kind=2∧inR n z∧z.x<(k:Int))
 | 0, _ => by
   constructor
   ·intro h;cases h
   ·rintro ⟨h1,h2,h3⟩
    unfold inR at h2
    rw [if_neg (by omega),if_pos h1] at h2
    omega
 | k + 1, h => by
   show z ∈ unC k++[⟨2,k,0,0,false⟩]↔_
   rw [List.mem_append,mem_unC (n:=n) k (by omega)]
   obtain ⟨zk,zx,zy,zs,zo⟩:=z
   constructor
   ·rintro (⟨h1,h2,h3⟩ | h1)
    ·exact ⟨h1,h2,by simp only at h3 ⊢;omega⟩
    ·simp only [List.mem_cons,List.not_mem_nil,or_false,Mv.mk.injEq] at h1
     obtain ⟨rfl,rfl,rfl,rfl,rfl⟩:=h1
     refine ⟨rfl,?_,by simp only;omega⟩
     unfold inR
     simp
     omega
   ·rintro ⟨h1,h2,h3⟩
    by_cases hx:zx<(k:Int)
    ·exact .inl ⟨h1,h2,hx⟩
    ·right
     unfold inR at h2
     rw [if_neg (by omega),if_pos h1] at h2
     simp only at h1 h2 h3
     simp only [List.mem_cons,List.not_mem_nil,or_false,Mv.mk.injEq]
     exact ⟨h1,by omega,h2.2.2.1,h2.2.2.2.1,h2.2.2.2.2⟩
theorem mem_upN {n x:Nat}{z:Mv}:∀k,k≤n→(z ∈ upN x k↔z.kind=4∧inR n z∧z.x=(x:Int)∧z.y<(k:Int))
 | 0, _ => by
   constructor
   ·intro h;cases h
   ·rintro ⟨h1,h2,h3,h4⟩
    unfold inR at h2
    rw [if_neg (by omega),if_neg (by omega),if_pos h1] at h2
    omega
 | k + 1, h => by
   show z ∈ upN x k++(if x<k then [⟨4,x,k,0,false⟩] else [])↔_
   rw [List.mem_append,mem_upN (n:=n) k (by omega)]
   obtain ⟨zk,zx,zy,zs,zo⟩:=z
   constructor
   ·rintro (⟨h1,h2,h3,h4⟩ | h1)
    ·exact ⟨h1,h2,h3,by simp only at h4 ⊢;omega⟩
    ·split at h1
     ·simp only [List.mem_cons,List.not_mem_nil,or_false,Mv.mk.injEq] at h1
      obtain ⟨rfl,rfl,rfl,rfl,rfl⟩:=h1
      refine ⟨rfl,?_,rfl,by simp only;omega⟩
      unfold inR
      simp
      omega
     ·cases h1
   ·rintro ⟨h1,h2,h3,h4⟩
    by_cases hx:zy<(k:Int)
    ·exact .inl ⟨h1,h2,h3,hx⟩
    ·right
     unfold inR at h2
     rw [if_neg (by omega),if_neg (by omega),if_pos h1] at h2
     simp only at h1 h2 h3 h4
     rw [if_pos (by omega)]
     simp only [List.mem_cons,List.not_mem_nil,or_false,Mv.mk.injEq]
     exact ⟨h1,h3,by omega,h2.2.2.2.1,h2.2.2.2.2⟩
theorem mem_upNX {n:Nat}{z:Mv}:∀k,k≤n→(z ∈ upNX n k↔z.kind=4∧inR n z∧z.x<(k:Int))
 | 0, _ => by
   constructor
   ·intro h;cases h
   ·rintro ⟨h1,h2,h3⟩
    unfold inR at h2
    rw [if_neg (by omega),if_neg (by omega),if_pos h1] at h2
    omega
 | k + 1, h => by
   show z ∈ upNX n k++upN k n↔_
   rw [List.mem_append,mem_upNX (n:=n) k (by omega),mem_upN (n:=n) n (Nat.le_refl _)]
   constructor
   ·rintro (⟨h1,h2,h3⟩ | ⟨h1,h2,h3,h4⟩)
    ·exact ⟨h1,h2,by omega⟩
    ·exact ⟨h1,h2,by omega⟩
   ·rintro ⟨h1,h2,h3⟩
    by_cases hx:z.x<(k:Int)
    ·exact .inl ⟨h1,h2,hx⟩
    ·right
     refine ⟨h1,h2,by omega,?_⟩
     unfold inR at h2
     rw [if_neg (by omega),if_neg (by omega),if_pos h1] at h2
     omega
theorem cu_kind {d:Pl.Dg}{z:Mv}(h:z ∈ sel d (cuC (4 * d.n+1))):z.kind=1:=((mem_cuC _ (Nat.le_refl _)).1 (mem_sel.1 h).1).1
theorem un_kind {d:Pl.Dg}{z:Mv}(h:z ∈ sel d (unC d.n)):z.kind=2:=((mem_unC _ (Nat.le_refl _)).1 (mem_sel.1 h).1).1
theorem pk_kind {d:Pl.Dg}{k:Nat}{z:Mv}(h:z ∈ sel d (pkNX d.n k)):z.kind=3:=pkNX_kind (mem_sel.1 h).1
theorem up_kind {d:Pl.Dg}{z:Mv}(h:z ∈ sel d (upNX d.n d.n)):z.kind=4:=((mem_upNX _ (Nat.le_refl _)).1 (mem_sel.1 h).1).1
end Go.Proofs.YtdgliimmnnhhjaaGreatDoor
end
section
namespace Go.Proofs.YtdgliimmnnhhjaaGreatDoor
open Go Go.RowKit
attribute [local go_sem ↓] Go.wp_at_zero Go.wp_at_succ
section
variable {w W W' W2:World} {vR vS:Value} {rs ss:List Mv} {m:Mv} {g n c:Nat}
theorem apart {v u:Value}(ne:∀g,v.ownBlock=some g→u.ownBlock=some g→False):u.ownBlock=none∨u.ownBlock≠v.ownBlock:=by
 cases hu:u.ownBlock with
 | none=>exact .inl rfl
 | some g=>exact .inr (fun e=>ne g e.symm hu)
end
theorem pkN_len (x y:Int):∀k,(pkN x y k).length≤2 * k
 | 0=>Nat.le_refl _
 | k + 1 => by
   have a:=pkN_len x y k
   show (pkN x y k++[_,_]).length≤_
   rw [List.length_append]
   simp only [List.length_cons,List.length_nil]
   omega
theorem pkNY_len (x:Int):∀k,(pkNY x k).length≤6 * k
 | 0=>Nat.le_refl _
 | k + 1 => by
   have a:=pkNY_len x k
   have b:=pkN_len x ((k:Int) - 2) 3
   show (pkNY x k++pkN x ((k:Int) - 2) 3).length≤_
   rw [List.length_append]
   omega
theorem pkNX_len {n:Nat}(hn:n≤64):∀k,(pkNX n k).length≤1548 * k
 | 0=>Nat.le_refl _
 | k + 1 => by
   have a:=pkNX_len hn k
   have b:=pkNY_len ((k:Int) - 2) (4 * n+2)
   show (pkNX n k++pkNY ((k:Int) - 2) (4 * n+2)).length≤_
   rw [List.length_append]
   omega
theorem allL_le {d:Pl.Dg}(hn:d.n≤64):(allL d).length≤500000:=by
 have a:=cu_le (d:=d) hn
 have b:=un_le (d:=d) hn
 have c:=sel_len d (pkNX d.n (4 * d.n+2))
 have c2:=pkNX_len hn (4 * d.n+2)
 have e:=up_le (d:=d) hn
 have f:=slL_len d (4 * d.n)
 unfold allL
 simp only [List.length_append]
 omega
theorem remL_le {d:Pl.Dg}(hn:d.n≤64):(remL d).length≤5000:=by
 have b:=un_le (d:=d) hn
 have e:=up_le (d:=d) hn
 unfold remL
 rw [List.length_append]
 omega
end Go.Proofs.YtdgliimmnnhhjaaGreatDoor
end
section
namespace Go.Proofs.YtdgliimmnnhhjaaGreatDoor
open Go Go.RowKit
noncomputable def dn:Nat→Pl.Dg→Pl.Dg × List Mv
 | 0,d=>(d,[])
 | k + 1, d => match remL d with
   | []=>(d,[])
   | z :: _=>((dn k (apD d z)).1,z :: (dn k (apD d z)).2)
noncomputable def dnD (d:Pl.Dg):Pl.Dg:=(dn d.n d).1
noncomputable def dnM (d:Pl.Dg):List Mv:=(dn d.n d).2
theorem dn_none {d:Pl.Dg}(h:remL d=[]):∀k,dn k d=(d,[])
 | 0=>rfl
 | k+1=>by unfold dn;rw [h]
theorem dn_some {d:Pl.Dg}{z:Mv}{l:List Mv}(h:remL d=z :: l)(k:Nat):dn (k+1) d=((dn k (apD d z)).1,z :: (dn k (apD d z)).2):=by
 rw [dn,h]
theorem rem_ok {d:Pl.Dg}{z:Mv}(h:z ∈ remL d):apC d z=0∧(z.kind=2∨z.kind=4):=by
 unfold remL at h
 rcases List.mem_append.1 h with h | h
 ·exact ⟨(mem_sel.1 h).2,.inl (un_kind h)⟩
 ·exact ⟨(mem_sel.1 h).2,.inr (up_kind h)⟩
theorem rem_v {d:Pl.Dg}(hd:Pl.Valid d){z:Mv}(h:z ∈ remL d):Pl.Valid (apD d z) :=
 (ap_ok4 hd (by have:=(rem_ok h).2;omega) (rem_ok h).1).1
theorem rem_less {d:Pl.Dg}(hd:Pl.Valid d){z:Mv}(h:z ∈ remL d):(apD d z).n+1≤d.n:=by
 obtain ⟨h1,h2⟩:=rem_ok h
 have e:((apD d z).n:Int)=(d.n:Int)+moreK z:=(signs_law hd z h1).2.1
 obtain ⟨a,ha⟩:∃a,a=(apD d z).n:=⟨_,rfl⟩
 obtain ⟨b,hb⟩:∃b,b=d.n:=⟨_,rfl⟩
 rw [←ha,←hb] at e ⊢
 unfold moreK at e
 rcases h2 with h2 | h2 <;> simp [h2] at e <;> omega
theorem rem_flat {d:Pl.Dg}(hn:d.n=0):remL d=[]:=by
 unfold remL
 rw [hn]
 rfl
theorem dn_more {d:Pl.Dg}(hd:Pl.Valid d):∀k,d.n≤k→dn k d=dn d.n d:=by
 suffices h:∀n,∀d:Pl.Dg,Pl.Valid d→d.n≤n→∀k j,d.n≤k→d.n≤j→dn k d=dn j d from fun k hk=>h d.n d hd (Nat.le_refl _) k d.n hk (Nat.le_refl _)
 intro n
 induction n with
 | zero =>
   intro d hd h0 k j _ _
   have e:=rem_flat (d:=d) (by omega)
   rw [dn_none e,dn_none e]
 | succ n ih =>
   intro d hd hn k j hk hj
   cases hr:remL d with
   | nil=>rw [dn_none hr,dn_none hr]
   | cons z l =>
     have hz:z ∈ remL d:=by rw [hr];exact List.mem_cons_self
     have hl:=rem_less hd hz
     have hv:=rem_v hd hz
     obtain ⟨k',rfl⟩:∃k',k=k'+1:=⟨k - 1,by omega⟩
     obtain ⟨j',rfl⟩:∃j',j=j'+1:=⟨j - 1,by omega⟩
     rw [dn_some hr,dn_some hr,ih _ hv (by omega) k' j' (by omega) (by omega)]
theorem dn_next {d:Pl.Dg}(hd:Pl.Valid d){z:Mv}{l:List Mv}(h:remL d=z :: l):dnD d=dnD (apD d z)∧dnM d=z :: dnM (apD d z):=by
 have hz:z ∈ remL d:=by rw [h];exact List.mem_cons_self
 have hl:=rem_less hd hz
 have hv:=rem_v hd hz
 obtain ⟨k,hk⟩:∃k,d.n=k+1:=⟨d.n - 1,by omega⟩
 unfold dnD dnM
 rw [hk,dn_some h,dn_more hv k (by omega)]
 exact ⟨rfl,rfl⟩
theorem dn_stop {d:Pl.Dg}(h:remL d=[]):dnD d=d∧dnM d=[]:=by
 unfold dnD dnM
 rw [dn_none h]
 exact ⟨rfl,rfl⟩
end Go.Proofs.YtdgliimmnnhhjaaGreatDoor
end
section
namespace Go.Proofs.YtdgliimmnnhhjaaGreatDoor
open Go Go.RowKit
attribute [local go_sem ↓] Go.wp_at_zero Go.wp_at_succ
def lone:Pl.Dg:=⟨[],[],1⟩
theorem lone_all:allL lone=[⟨1,-1,0,-1,false⟩,⟨1,-1,0,-1,true⟩,⟨1,-1,0,1,false⟩,⟨1,-1,0,1,true⟩]++sel lone (pkNX 0 2):=by
 have e:sel lone (cuC 1)=[⟨1,-1,0,-1,false⟩,⟨1,-1,0,-1,true⟩,⟨1,-1,0,1,false⟩,⟨1,-1,0,1,true⟩]:=by
  rw [←cu_sel lone 1 (by decide)]
  rfl
 show sel lone (cuC 1)++sel lone []++sel lone (pkNX 0 2)++sel lone []++[]=_
 rw [e]
 simp [sel_nil]
theorem lone_valid:Pl.Valid lone:=valid_empty (by decide)
end Go.Proofs.YtdgliimmnnhhjaaGreatDoor
end
section
namespace Go.Proofs.YtdgliimmnnhhjaaGreatDoor
open Go Go.RowKit
attribute [local go_sem ↓] Go.wp_at_zero Go.wp_at_succ
theorem ap_n {d:Pl.Dg}(hd:Pl.Valid d){z:Mv}(h:apC d z=0):((apD d z).n:Int)=d.n+gro z.kind:=(signs_law hd z h).2.1
section
variable {w W W' W2:World} {v v':Value} {ms:List Mv} {m:Mv}
end
end Go.Proofs.YtdgliimmnnhhjaaGreatDoor
end
section
namespace Go.Proofs.YtdgliimmnnhhjaaGreatDoor
open Go Go.RowKit
attribute [local go_sem ↓] Go.wp_at_zero Go.wp_at_succ
theorem elemI:Tryz.prog.underlying 22=some (.slice (Tryz.prog.elem 22)):=by kernel_rfl
theorem sizeI (W:World):(sizeOf (Tryz.prog.elem 22)).run Tryz.prog W = .ok 1 W:=by kernel_rfl
theorem cut_hi {w:World}{A:Option Addr}{n c:Nat}{xs:List Int}(h:IntsAt w A n xs){k:Nat}(hk:k≤n)(hc:n≤c) :
 ∃A1:Option Addr,IntsAt w A1 (n - k) (xs.drop k)∧∀W:World,(Instr.slice 22 (.slice A n c) (some (.int .i64 (k:Int))) none none).run Tryz.prog W = .ok (.slice A1 (n - k) (c - k)) W:=by
 have hl:=h.len
 refine ⟨if c=k then A else A.map (·.add (k * 1)),⟨by simp;omega,fun hp=>?_⟩,fun W=>?_⟩
 ·obtain ⟨b,o,rfl,hx⟩:=h.2 (by omega)
  rw [if_neg (by omega)]
  refine ⟨b,o+k,by simp [Addr.add_lit],fun j u hu=>?_⟩
  rw [List.map_drop,List.getElem?_drop] at hu
  rw [Nat.add_assoc]
  exact hx _ u hu
 ·rw [run_slice_l W 22 A n c elemI .i64 (k:Int) (by omega) (by omega),sizeI]
  rfl
section
variable {P:Program} (w:World)
end
theorem src_of {w:World}{A:Option Addr}{n c:Nat}{ms:List Mv}(h:MovesAt w (.slice A n c) ms):n=ms.length∧SrcAt w A n (mvs ms):=by
 obtain ⟨A',c',e,h2⟩:=h.src
 injection e with e1 e2 e3
 subst e1
 subst e2
 exact ⟨rfl,h2⟩
theorem mvs_append (a b:List Mv):mvs (a++b)=mvs a++mvs b:=by unfold mvs;exact List.flatMap_append
end Go.Proofs.YtdgliimmnnhhjaaGreatDoor
end
section
namespace Go.Proofs.YtdgliimmnnhhjaaGreatDoor
open Go Go.RowKit
attribute [local go_sem ↓] Go.wp_at_zero Go.wp_at_succ
structure NK (w:World) (dv:List Value) (vO vC:Value) (ns:List Int) (o:List Nat) (cs:List Int) (W:World):Prop where
 d:Row W w.heap.size 24 dv
 nu:IRow W (w.heap.size+1) ns
 o:W.ownsRow (w.heap.size+2) 3 1 vO o.length (o.map (fun k:Nat=>Value.int .i64 k))
 c:W.ownsRow (w.heap.size+2) 3 1 vC cs.length (cs.map (.int .i64))
 ne:∀k,vO.ownBlock=some k→vC.ownBlock≠some k
 bel:Below w.heap.size w W
section
variable {w W W2:World} {dv:List Value} {vO vC:Value} {ns:List Int} {o:List Nat} {cs:List Int}
theorem NK.big (h:NK w dv vO vC ns o cs W):w.heap.size+2≤W.heap.size:=by have:=Row.lt h.nu;omega
theorem NK.below (h:NK w dv vO vC ns o cs W)(hb:Below W.heap.size W W2):NK w dv vO vC ns o cs W2 :=
 ⟨h.d.below hb,Row.below h.nu hb,own_keep h.o hb (Nat.le_refl _),own_keep h.c hb (Nat.le_refl _),h.ne,h.bel.trans (hb.mono (by have:=h.big;omega))⟩
theorem NK.alloc (h:NK w dv vO vC ns o cs W)(b:Obj):NK w dv vO vC ns o cs (W.alloc b):=h.below ((Below.refl _ _).alloc (Nat.le_refl _) b)
theorem NK.setN (h:NK w dv vO vC ns o cs W)(i:Nat)(v:Int):NK w dv vO vC (ns.set i v) o cs (W.setCell ⟨w.heap.size+1,i,none⟩ (.int .i64 v)) :=
 ⟨h.d.other (by show _≠w.heap.size+1;omega) _,h.nu.set i v,ownsRow_setCell_below h.o (by show w.heap.size+1<w.heap.size+2;omega) _,ownsRow_setCell_below h.c (by show w.heap.size+1<w.heap.size+2;omega) _,h.ne,h.bel.setCell (by show _≤w.heap.size+1;omega) _⟩
theorem own_hat {g:Nat}{v:Value}{W:World}{base n:Nat}{xs:List Value}{t:TypeId}(h:W.ownsRow base t 1 v n xs)(hat:v.ownBlock=some g∨g=W.heap.size){u:Value}{m:Nat}{ys:List Value}(hu:W.ownsRow base t 1 u m ys)(ne:∀k,v.ownBlock=some k→u.ownBlock≠some k):u.ownBlock≠some g:=by
 rcases hat with e | e
 ·exact ne g e
 ·intro e2
  have:=(hu.lt g e2).2
  omega
theorem NK.appO (h:NK w dv vO vC ns o cs W){g c n:Nat}{o':List Nat}(own:W2.ownsRow (w.heap.size+2) 3 1 (.slice (some ⟨g,0,none⟩) n c) n (o'.map (fun k:Nat=>Value.int .i64 k)))(gr:W.grownBy W2 vO.ownBlock)(hat:vO.ownBlock=some g∨g=W.heap.size):NK w dv (.slice (some ⟨g,0,none⟩) n c) vC ns o' cs W2:=by
 have hn:n=o'.length:=by have:=own.1;simpa using this.symm
 have hne:=own_hat h.o hat h.c h.ne
 have hle:=h.big
 refine ⟨h.d.grown gr (own_row_ne h.o h.d (by decide)),Row.grown h.nu gr (fun e=>?_),by rw [←hn];exact own,h.c.kept gr ?_,fun k hk=>?_,h.bel.grown gr (by omega) (fun k hk=>by have:=(h.o.lt k hk).1;omega)⟩
 ·have:=(h.o.lt _ e.symm).1;omega
 ·cases hm:vC.ownBlock with
  | none=>exact .inl rfl
  | some x=>exact .inr (fun e=>h.ne x e.symm hm)
 ·have e:g=k:=by injection hk
  subst e
  exact hne
theorem NK.appC (h:NK w dv vO vC ns o cs W){g c n:Nat}{cs':List Int}(own:W2.ownsRow (w.heap.size+2) 3 1 (.slice (some ⟨g,0,none⟩) n c) n (cs'.map (.int .i64)))(gr:W.grownBy W2 vC.ownBlock)(hat:vC.ownBlock=some g∨g=W.heap.size):NK w dv vO (.slice (some ⟨g,0,none⟩) n c) ns o cs' W2:=by
 have hn:n=cs'.length:=by have:=own.1;simpa using this.symm
 have hne:=own_hat h.c hat h.o (fun k hk e=>h.ne k e hk)
 have hle:=h.big
 refine ⟨h.d.grown gr (own_row_ne h.c h.d (by decide)),Row.grown h.nu gr (fun e=>?_),h.o.kept gr ?_,by rw [←hn];exact own,fun k hk e=>?_,h.bel.grown gr (by omega) (fun k hk=>by have:=(h.c.lt k hk).1;omega)⟩
 ·have:=(h.c.lt _ e.symm).1;omega
 ·cases hm:vO.ownBlock with
  | none=>exact .inl rfl
  | some x=>exact .inr (fun e=>h.ne x hm e.symm)
 ·have e:g=k:=by injection e
  subst e
  exact hne hk
end
theorem rep_step (k n:Nat)(h:k<n):(List.replicate k (-1:Int)++List.replicate (n - k) 0).set k (-1)=List.replicate (k+1) (-1)++List.replicate (n - (k+1)) 0:=by
 have e:n - k=(n - (k+1))+1:=by omega
 rw [e,List.replicate_succ,List.set_append_right _ _ (by simp),List.length_replicate,Nat.sub_self,List.set_cons_zero,List.replicate_succ' ,List.append_assoc]
 rfl
theorem cut_mid {w:World}{A:Option Addr}{n c:Nat}{xs:List Int}(h:IntsAt w A n xs){k:Nat}(hk:k+5≤n)(hc:n≤c) :
 ∃(A1:Option Addr) (c1:Nat),IntsAt w A1 5 ((xs.drop k).take 5)∧∀W:World,(Instr.slice 22 (.slice A n c) (some (.int .i64 (k:Int))) (some (.int .i64 ((k+5:Nat):Int))) none).run Tryz.prog W = .ok (.slice A1 5 c1) W:=by
 have hl:=h.len
 obtain ⟨b,o,rfl,hx⟩:=h.2 (by omega)
 refine ⟨some ⟨b,o+k,none⟩,c - k,⟨by simp;omega,fun hp=>⟨b,o+k,rfl,fun j u hu=>?_⟩⟩,fun W=>?_⟩
 ·rw [List.map_take,List.getElem?_take] at hu
  split at hu
  ·rw [List.map_drop,List.getElem?_drop] at hu
   rw [Nat.add_assoc]
   exact hx _ u hu
  ·cases hu
 ·rw [run_slice_lh W 22 (some ⟨b,o,none⟩) n c elemI .i64 .i64 (k:Int) ((k+5:Nat):Int) (by omega) (by omega) (by omega),sizeI]
  simp only [Result.andThen_ok]
  unfold sliced
  rw [Int.toNat_natCast,Int.toNat_natCast,if_neg (show ¬c=k by omega),show k+5 - k=5 by omega]
  simp [Addr.add_lit]
end Go.Proofs.YtdgliimmnnhhjaaGreatDoor
end
