/-
  The texts Ha, Lm, Hd, Hi, Ld.
-/
import Derived.Test.YtdgliimmnnhhjaaGreatDoorU03
import Derived.Test.YtdgliimmnnhhjaaGreatDoorU35
import Derived.Lib.ItoaLen
import Derived.Lib.SmallJoins
set_option linter.unusedVariables false
set_option linter.unusedSimpArgs false
section
namespace Go.Proofs.YtdgliimmnnhhjaaGreatDoor
open Go Go.RowKit
def keyF (l:List Int):List UInt8:=l.flatMap (fun v=>44 :: Lib.itoa v)
def keyL (l:List Int):List UInt8:=(keyF l).drop 1
theorem keyF_app (a b:List Int):keyF (a++b)=keyF a++keyF b:=by unfold keyF;rw [List.flatMap_append]
theorem keyL_one (x:Int):keyL [x]=Lib.itoa x:=by unfold keyL keyF;simp
theorem keyL_snoc {a:List Int}(h:a≠[])(x:Int):keyL (a++[x])=keyL a++44 :: Lib.itoa x:=by
 unfold keyL
 rw [keyF_app,List.drop_append_of_le_length]
 ·unfold keyF;simp
 ·cases a with
  | nil=>exact absurd rfl h
  | cons y l=>unfold keyF;simp
open Classical in
noncomputable def codeD (d:Pl.Dg):List Int:=if h:∃ps,Pl.Pcs d ps∧Pl.Srt ps then Pl.pcode d.lp h.choose else []
theorem codeD_is {d:Pl.Dg}(hd:Pl.Wf d){ps:List Pl.Pc}(hp:Pl.Pcs d ps)(hs:Pl.Srt ps):Pl.pcode d.lp ps=codeD d:=by
 have h:∃ps,Pl.Pcs d ps∧Pl.Srt ps:=⟨ps,hp,hs⟩
 unfold codeD
 rw [dif_pos h]
 exact (Pl.Iso.refl d).pcode hd hd hp h.choose_spec.1 hs h.choose_spec.2
noncomputable def keyD (d:Pl.Dg):List UInt8:=keyL (codeD d)
structure Nd where
 d:Pl.Dg
 m:Mv
 fr:Int
 s:Nat
def nd0 (d:Pl.Dg):Nd:=⟨d,⟨0,0,0,0,false⟩,-1,0⟩
noncomputable def nd1 (i:Nat)(a:Nd)(z:Mv):Nd:=⟨apD a.d z,z,i,a.s+1⟩
noncomputable def keysL (l:List Nd):List (List UInt8):=l.map (fun x=>keyD x.d)
open Classical in
noncomputable def inn (i:Nat)(a:Nd):List Mv→List Nd→List Nd × Nat
 | [],l=>(l,0)
 | z :: r, l =>
   if keyD (apD a.d z) ∈ keysL l then inn i a r l
   else if l.length=300 then (l,1)
   else if remL (apD a.d z)=[] then inn i a r (l++[nd1 i a z])
   else (l++[nd1 i a z],2)
section
variable {i:Nat} {a:Nd} {z:Mv} {r:List Mv} {l:List Nd}
end
noncomputable def slD (d:Pl.Dg):List Mv:=slL d (4 * d.n)
open Classical in
noncomputable def outr (k:Nat):Nat→Nat→List Nd→List Nd × Nat
 | 0,_,l=>(l,1)
 | f + 1, i, l => match l[i]? with
   | none=>(l,1)
   | some a => if k ≤ a.s then outr k f (i + 1) l
     else if (inn i a (slD a.d) l).2=0 then outr k f (i+1) (inn i a (slD a.d) l).1
     else inn i a (slD a.d) l
section
variable {k f i:Nat} {a:Nd} {l:List Nd}
end
def pthR (l:List Nd):Nat→Nat→List Mv
 | 0,_=>[]
 | f + 1, j => match l[j]? with
   | none=>[]
   | some a=>if a.fr<0 then [] else a.m :: pthR l f a.fr.toNat
def pt (l:List Nd)(j:Nat):List Mv:=pthR l (j+1) j
noncomputable def srR (k:Nat)(d:Pl.Dg):List Nd × Nat:=outr k 301 0 [nd0 d]
noncomputable def srB (k:Nat)(d:Pl.Dg):Bool:=(srR k d).2 == 2
noncomputable def srD (k:Nat)(d:Pl.Dg):Pl.Dg:=(((srR k d).1.getLast?).getD (nd0 d)).d
noncomputable def srP (k:Nat)(d:Pl.Dg):List Mv:=(pt (srR k d).1 ((srR k d).1.length - 1)).reverse
noncomputable def rd (k:Nat):Nat→Pl.Dg→Pl.Dg × List Mv
 | 0,d=>(d,[])
 | f+1,d=>if srB k d=true then ((rd k f (dnD (srD k d))).1,srP k d++(dnM (srD k d)++(rd k f (dnD (srD k d))).2)) else (d,[])
end Go.Proofs.YtdgliimmnnhhjaaGreatDoor
end
section
namespace Go.Proofs.YtdgliimmnnhhjaaGreatDoor
open Go Go.RowKit
attribute [local go_sem ↓] Go.wp_at_zero Go.wp_at_succ
theorem rem_kinds {d:Pl.Dg}{k x y s:Int}{o:Bool}(h:(⟨k,x,y,s,o⟩:Mv) ∈ remL d):apC d ⟨k,x,y,s,o⟩=0∧inR d.n ⟨k,x,y,s,o⟩∧0≤x∧0≤y∧(k=2∨k=4):=by
 obtain ⟨h1,h2⟩:=rem_ok h
 have hin:=(apC_zero h1).2.1
 refine ⟨h1,hin,?_,?_,h2⟩
 ·rcases h2 with h2 | h2
  ·have hk:k=2:=h2
   subst hk
   have h3:0≤x∧x<d.n∧y=0∧s=0∧o=false:=hin
   exact h3.1
  ·have hk:k=4:=h2
   subst hk
   have h3:0≤x∧x<y∧y<d.n∧s=0∧o=false:=hin
   exact h3.1
 ·rcases h2 with h2 | h2
  ·have hk:k=2:=h2
   subst hk
   have h3:0≤x∧x<d.n∧y=0∧s=0∧o=false:=hin
   omega
  ·have hk:k=4:=h2
   subst hk
   have h3:0≤x∧x<y∧y<d.n∧s=0∧o=false:=hin
   omega
theorem apply_rem (r:Pl.Dg)(hr:Pl.Valid r)(A B:Option Addr)(n cp cq m lp:Nat)(k x y s:Int)(o:Bool)(w:World)(hn:n=r.n)(hm:m=4 * r.n)(hl:lp=r.lp)(hg:DgAt w A B r)(h:(⟨k,x,y,s,o⟩:Mv) ∈ remL r) :
 Calls Tryz.prog 20 #[.agg #[.slice A n cp,.slice B m cq,.int .i64 (lp:Int)],.agg #[.int .i64 k,.int .i64 x,.int .i64 y,.int .i64 s,.bool o]] w (ResC (apC r ⟨k,x,y,s,o⟩) (apD r ⟨k,x,y,s,o⟩) (apI r ⟨k,x,y,s,o⟩) w):=by
 subst hn
 subst hl
 obtain ⟨h1,hin,hx,hy,hk⟩:=rem_kinds h
 obtain ⟨a,rfl⟩:=Int.eq_ofNat_of_zero_le hx
 obtain ⟨b,rfl⟩:=Int.eq_ofNat_of_zero_le hy
 rcases hk with rfl | rfl
 ·have e:apC r ⟨2,(a:Int),(b:Int),s,o⟩=uncC r a:=by rw [apC_in (show (1:Int)≤2∧(2:Int)≤5 by decide) hin];rfl
  rw [e]
  exact apply_2 r hr A B cp cq m a b s o w hm hg hin
 ·have e:apC r ⟨4,(a:Int),(b:Int),s,o⟩=unpC r a b:=by rw [apC_in (show (1:Int)≤4∧(4:Int)≤5 by decide) hin];rfl
  rw [e]
  exact apply_4 r hr A B cp cq m a b s o w hm hg hin
theorem Removing_n (r:Pl.Dg)(hr:Pl.Valid r)(A B:Option Addr)(n cp cq m lp:Nat)(w:World)(hn:n=r.n)(hm:m=4 * r.n)(hl:lp=r.lp)(hg:DgAt w A B r) :
 Calls Tryz.prog 37 #[.agg #[.slice A n cp,.slice B m cq,.int .i64 (lp:Int)]] w fun e w'=>∃v,e = .returned v∧MovesIn w.heap.size w' v (remL r)∧Below w.heap.size w w':=by
 subst hn
 subst hl
 exact Removing_any r hr A B cp cq m w hm hg
end Go.Proofs.YtdgliimmnnhhjaaGreatDoor
end
section
namespace Go.Proofs.YtdgliimmnnhhjaaGreatDoor
open Go Go.RowKit
attribute [local go_sem ↓] Go.wp_at_zero Go.wp_at_succ
def MapIs (W:World)(b:Nat)(ks:List (List UInt8)):Prop :=
 ∃(n:Nat) (D:DataW Unit),W.ownsMap Tryz.prog 9 (plainElem Tryz.prog 4) b n D∧n≤ks.length∧∀s:List UInt8,D.atKey (.string s) (.lit (.bool false)) = .lit (.bool (Pl.vb (s ∈ ks)))
theorem skKey:Maps.Keyed Tryz.prog 9:=Maps.string_keyed Tryz.underlying9
theorem MapIs.lt {W:World}{b:Nat}{ks:List (List UInt8)}(h:MapIs W b ks):b<W.heap.size:=let ⟨_,_,h,_⟩:=h;h.lt
theorem MapIs.obj {W:World}{b:Nat}{ks:List (List UInt8)}(h:MapIs W b ks):∃es cl,W.heap[b]? = some (.map es cl):=let ⟨_,_,⟨es,cl,h,_⟩,_⟩:=h;⟨es,cl,h⟩
theorem MapIs.same {W W':World}{b:Nat}{ks:List (List UInt8)}(h:MapIs W b ks)(e:W'.heap[b]? = W.heap[b]?):MapIs W' b ks:=by
 obtain ⟨n,D,⟨es,cl,hb,r⟩,h2,h3⟩:=h
 exact ⟨n,D,⟨es,cl,e.trans hb,r⟩,h2,h3⟩
theorem plainElem_bool_inv {P:Program}{e:TypeId}(he:P.underlying e=some .bool){v:Value}{z:DataW Unit × List MemPlace}(h:plainElem P e v=some z):∃x,v = .bool x∧z=(.lit (.bool x),[]):=by
 unfold plainElem at h
 rw [he] at h
 cases v <;> simp at h
 exact ⟨_,rfl,h.symm⟩
theorem MapIs.new (W:World):MapIs (W.alloc (.map #[] 0)) W.heap.size [] :=
 ⟨0, .map [], World.ownsMap_made W _ _ _, Nat.le_refl _, fun s => by
   rw [WideAt.atKey_none _ (fun p hp=>absurd hp (by simp)),Pl.vb_false (by simp)]⟩
set_option maxRecDepth 100000 in
theorem MapIs.look {W:World}{b:Nat}{ks:List (List UInt8)}(h:MapIs W b ks)(s:ByteArray)(hs:s.size≤maxLen) :
 (Instr.lookup 35 (.map (some b)) (.string s) false).run Tryz.prog W = .ok (.bool (Pl.vb (s.data.toList ∈ ks))) W:=by
 obtain ⟨n,D,h1,h2,h3⟩:=h
 obtain ⟨v,ps,hrun,hv⟩:=h1.lookup skKey Tryz.underlying35 (Tryz.zeroValue4 W) (plainElem_bool Tryz.underlying4 false) (WideMaps.keyOf_string_mk Tryz.underlying9 hs)
 rw [h3] at hv
 rw [hrun]
 obtain ⟨x,hx⟩:∃x,x=Pl.vb (s.data.toList ∈ ks):=⟨_,rfl⟩
 rw [←hx] at hv ⊢
 obtain ⟨y,rfl,hy⟩:=plainElem_bool_inv Tryz.underlying4 hv
 injection hy with hy
 injection hy with hy
 injection hy with hy
 rw [hy]
theorem MapIs.put {n b:Nat}{D:DataW Unit}{W W':World}{ks:List (List UInt8)}(h0:W.ownsMap Tryz.prog 9 (plainElem Tryz.prog 4) b n D)(hn:n≤ks.length)(h3:∀s:List UInt8,D.atKey (.string s) (.lit (.bool false)) = .lit (.bool (Pl.vb (s ∈ ks))))(s:List UInt8)
 (h:W'.ownsMap Tryz.prog 9 (plainElem Tryz.prog 4) b (n+1) (D.put (.string s) (.lit (.bool true)))):MapIs W' b (ks++[s]):=by
 refine ⟨n+1,_,h,by rw [List.length_append,List.length_singleton];omega,fun t=>?_⟩
 by_cases e:t=s
 ·subst e
  rw [Maps.atKey_put_same h0.isMap (by trivial),Pl.vb_true (by simp)]
 ·rw [Maps.atKey_put_other (fun e2=>e (by injection e2)),h3]
  congr 3
  exact propext ⟨fun h=>by simp [h],fun h=>by simpa [e] using h⟩
def KpT (t:TypeId)(W W':World):Prop:=∀(g:Nat) (cs:Array Value) (fr:Nat × Nat),W.heap[g]? = some (Obj.cells cs t fr)→W'.heap[g]? = some (Obj.cells cs t fr)
theorem KpT.of_below {t:TypeId}{W W':World}(h:Below W.heap.size W W'):KpT t W W':=fun g cs fr hg=>(h.block g (lt_of_heap hg)).trans hg
theorem KpT.of_map {t:TypeId}{W W':World}{b:Nat}(h:W.grownBy W' (some b))(hr:∃es cl,W.heap[b]? = some (.map es cl)):KpT t W W':=fun g cs fr hg=>(h.block g (lt_of_heap hg) (fun e=>by
 injection e with e
 obtain ⟨es,cl,h2⟩:=hr
 rw [←e,hg] at h2
 injection h2 with h2
 cases h2)).trans hg
theorem Row.kp {t:TypeId}{W W':World}{g:Nat}{vs:List Value}(h:Row W g t vs)(k:KpT t W W'):Row W' g t vs:=k g _ _ h
theorem RowT.kp {t:TypeId}{W W':World}{A:Option Addr}{n:Nat}{xs:List Value}(h:RowT W t A n xs)(k:KpT t W W'):RowT W' t A n xs :=
 ⟨h.1,fun hn=>let ⟨b,o,cs,fr,e,hb,hc⟩:=h.2 hn;⟨b,o,cs,fr,e,k b cs fr hb,hc⟩⟩
theorem DgT.kp {W W':World}{A B:Option Addr}{d:Pl.Dg}(h:DgT W A B d)(k:KpT 3 W W'):DgT W' A B d:=⟨h.s.kp k,h.m.kp k⟩
theorem own_kp {t:TypeId}{W W':World}{base s n:Nat}{v:Value}{xs:List Value}(h:W.ownsRow base t s v n xs)(k:KpT t W W'):W'.ownsRow base t s v n xs:=by
 refine ⟨h.1,?_⟩
 rcases h.2 with hz | ⟨g,cap,cur,r1,r2,r3,r4⟩
 ·exact .inl hz
 ·exact .inr ⟨g,cap,cur,r1,r2,k g _ _ r3,r4⟩
structure Nm where
 a:Nd
 A:Option Addr
 B:Option Addr
 c:Nat
 e:Nat
def Nm.v (z:Nm):List Value:=[.slice z.A z.a.d.n z.c,.slice z.B (4 * z.a.d.n) z.e,.int .i64 z.a.d.lp,.int .i64 z.a.m.kind,.int .i64 z.a.m.x,.int .i64 z.a.m.y,.int .i64 z.a.m.sign,.bool z.a.m.over,.int .i64 z.a.fr,.int .i64 z.a.s]
def nms (zs:List Nm):List Value:=zs.flatMap Nm.v
theorem nms_len:∀zs:List Nm,(nms zs).length=zs.length * 10
 | []=>rfl
 | z :: zs => by
   have:=nms_len zs
   show (z.v++nms zs).length=_
   rw [List.length_append,this,List.length_cons]
   show 10+_=_
   omega
theorem nms_app (zs:List Nm)(z:Nm):nms (zs++[z])=nms zs++z.v:=by unfold nms;simp
theorem nms_get:∀(zs:List Nm) (j:Nat) (z:Nm),zs[j]? = some z→∀(i:Nat) (u:Value),z.v[i]? = some u→(nms zs)[j * 10+i]? = some u
 | [],j,z,h,_,_,_=>by cases h
 | m :: ms, 0, z, h, i, u, hu => by
   obtain rfl:m=z:=by simpa using h
   show (m.v++nms ms)[0 * 10+i]? = _
   rw [Nat.zero_mul,Nat.zero_add,List.getElem?_append_left (List.getElem?_eq_some_iff.1 hu).1]
   exact hu
 | m :: ms, j + 1, z, h, i, u, hu => by
   show (m.v++nms ms)[(j+1) * 10+i]? = _
   rw [List.getElem?_append_right (by show 10≤_;omega),show (j+1) * 10+i - m.v.length=j * 10+i by show (j+1) * 10+i - 10=_;omega]
   exact nms_get ms j z (by simpa using h) i u hu
section
variable {w W W':World} {A0 B0:Option Addr} {d0:Pl.Dg} {k gm:Nat} {dv:List Value} {v:Value} {zs:List Nm}
end
end Go.Proofs.YtdgliimmnnhhjaaGreatDoor
end
section
namespace Go.Proofs.YtdgliimmnnhhjaaGreatDoor
open Go Go.RowKit
def dvl (l:List UInt8):Nat:=l.foldl (fun a c=>10 * a+(c.toNat - 48)) 0
theorem dvl_snoc (l:List UInt8)(c:UInt8):dvl (l++[c])=10 * dvl l+(c.toNat - 48):=by unfold dvl;rw [List.foldl_append];rfl
theorem dig_to {k:Nat}(h:k<10):(UInt8.ofNat (48+k)).toNat=48+k:=by
 rw [UInt8.toNat_ofNat']
 omega
theorem dec_is (u:Nat):dvl (Lib.decDigits u)=u∧∀c,c ∈ Lib.decDigits u→48≤c.toNat∧c.toNat≤57:=by
 induction u using Nat.strongRecOn with
 | _ u ih =>
   by_cases h:u<10
   ·rw [Lib.decDigits_one h]
    refine ⟨?_,fun c hc=>?_⟩
    ·show 10 * 0+((UInt8.ofNat (48+u)).toNat - 48)=u
     rw [dig_to h];omega
    ·rw [List.mem_singleton.1 hc,dig_to h];omega
   ·obtain ⟨i1,i2⟩:=ih (u / 10) (by omega)
    have e:Lib.decDigits u=Lib.decDigits (u / 10)++[UInt8.ofNat (48+u % 10)]:=by
     conv=>lhs;rw [Lib.decDigits,dif_neg h]
    have h2:u % 10<10:=by omega
    rw [e]
    refine ⟨?_,fun c hc=>?_⟩
    ·rw [dvl_snoc,i1,dig_to h2];omega
    ·rcases List.mem_append.1 hc with hc | hc
     ·exact i2 c hc
     ·rw [List.mem_singleton.1 hc,dig_to h2];omega
theorem itoa_nc (n:Int):∀c,c ∈ Lib.itoa n→c≠44:=by
 have key:∀u c,c ∈ Lib.decDigits u→c≠44:=fun u c hc e=>by
  have:=(dec_is u).2 c hc
  rw [e] at this
  exact absurd this.1 (by decide)
 intro c hc
 unfold Lib.itoa at hc
 split at hc
 ·rcases List.mem_cons.1 hc with rfl | hc
  ·decide
  ·exact key _ c hc
 ·exact key _ c hc
theorem itoa_inj {n m:Int}(h:Lib.itoa n=Lib.itoa m):n=m:=by
 have key:∀u v,Lib.decDigits u=Lib.decDigits v→u=v:=fun u v e=>by rw [←(dec_is u).1,←(dec_is v).1,e]
 have nokey:∀u v,45 :: Lib.decDigits u≠Lib.decDigits v:=fun u v e=>by
  have:=(dec_is v).2 45 (by rw [←e];simp)
  exact absurd this.1 (by decide)
 unfold Lib.itoa at h
 split at h <;> split at h
 ·injection h with _ h
  have:=key _ _ h
  omega
 ·exact absurd h (nokey _ _)
 ·exact absurd h.symm (nokey _ _)
 ·have:=key _ _ h
  omega
theorem head_eq {a b:List UInt8}:∀{x y:List UInt8},(∀c,c ∈ x→c≠44)→(∀c,c ∈ y→c≠44)→(a=[]∨∃r,a=44 :: r)→(b=[]∨∃r,b=44 :: r)→x++a=y++b→x=y∧a=b
 | [],[],_,_,_,_,h=>⟨rfl,h⟩
 | [], c :: y, _, hy, ha, _, h => by
   rcases ha with rfl | ⟨r,rfl⟩
   ·exact absurd h (by simp)
   ·injection h with h1 _
    exact absurd h1.symm (hy c (by simp))
 | c :: x, [], hx, _, _, hb, h => by
   rcases hb with rfl | ⟨r,rfl⟩
   ·exact absurd h (by simp)
   ·injection h with h1 _
    exact absurd h1 (hx c (by simp))
 | c :: x, e :: y, hx, hy, ha, hb, h => by
   injection h with h1 h2
   obtain ⟨e1,e2⟩:=head_eq (fun c hc=>hx c (by simp [hc])) (fun c hc=>hy c (by simp [hc])) ha hb h2
   exact ⟨by rw [h1,e1],e2⟩
theorem keyF_at (l:List Int):keyF l=[]∨∃r,keyF l=44 :: r:=by
 cases l with
 | nil=>exact .inl rfl
 | cons x l=>exact .inr ⟨_,by unfold keyF;rw [List.flatMap_cons];rfl⟩
theorem keyF_inj:∀{a b:List Int},keyF a=keyF b→a=b
 | [],[],_=>rfl
 | [],y :: b,h=>by unfold keyF at h;simp at h
 | x :: a,[],h=>by unfold keyF at h;simp at h
 | x :: a, y :: b, h => by
   have e:∀(x:Int) (a:List Int),keyF (x :: a)=44 :: (Lib.itoa x++keyF a):=fun x a=>by unfold keyF;rw [List.flatMap_cons];rfl
   rw [e,e] at h
   injection h with _ h
   obtain ⟨e1,e2⟩:=head_eq (itoa_nc x) (itoa_nc y) (keyF_at a) (keyF_at b) h
   rw [itoa_inj e1,keyF_inj e2]
theorem keyL_inj {a b:List Int}(ha:a≠[])(hb:b≠[])(h:keyL a=keyL b):a=b:=by
 have key:∀{a:List Int},a≠[]→keyF a=44 :: keyL a:=fun {a} ha=>by
  cases a with
  | nil=>exact absurd rfl ha
  | cons x a=>unfold keyL keyF;rw [List.flatMap_cons];rfl
 exact keyF_inj (by rw [key ha,key hb,h])
theorem key_iso {a b:Pl.Dg}(ha:Pl.Wf a)(hb:Pl.Wf b)(h:keyD a=keyD b):∃σ,Pl.Iso a b σ:=by
 obtain ⟨ps,p1,p2⟩:=Pl.code_ex ha
 obtain ⟨qs,q1,q2⟩:=Pl.code_ex hb
 unfold keyD at h
 rw [←codeD_is ha p1 p2,←codeD_is hb q1 q2] at h
 exact Pl.iso_of_code ha hb p1 q1 (keyL_inj (by unfold Pl.pcode;simp) (by unfold Pl.pcode;simp) h)
end Go.Proofs.YtdgliimmnnhhjaaGreatDoor
end
section
namespace Go.Proofs.YtdgliimmnnhhjaaGreatDoor
open Go Go.RowKit
attribute [local go_sem ↓] Go.wp_at_zero Go.wp_at_succ
structure AR (w:World) (dv:List Value) (b:Nat) (v:Value) (ms:List Mv) (R:Option Addr) (nr:Nat) (rs:List Mv) (W:World):Prop where
 al:AL w dv b v ms W
 rv:MovesV W R nr rs
 ne:∀g,0<nr→R=some ⟨g,0,none⟩→some g≠v.ownBlock
section
variable {w W W':World} {dv:List Value} {b nr:Nat} {v v':Value} {ms ms' rs:List Mv} {R:Option Addr}
end
end Go.Proofs.YtdgliimmnnhhjaaGreatDoor
end
