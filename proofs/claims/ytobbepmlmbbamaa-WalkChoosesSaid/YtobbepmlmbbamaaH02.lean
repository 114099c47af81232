/-
 The texts Wk, Slt, Wi, Drp, Xn, Xz.
-/
import Derived.Test.YtobbepmlmbbamaaH00
import Derived.ChangeSame
import Derived.ChangeSlices
import Derived.Deep.Fields
import Derived.Deep.Slices
import Derived.Deep.Strs
import Derived.OpenShut
import Derived.ProofKit
set_option linter.unusedVariables false
set_option linter.unusedSimpArgs false
section
namespace Go.Proofs.Ytobbepmlmbbamaa
open Go.RowKit
def ahd (gs:List Nat)(h k:Nat):Nat:=((gs.take k).filter (fun c=>decide (c<h / 4))).length
theorem ahd_le (gs:List Nat)(h k:Nat):ahd gs h k≤k:=by
 unfold ahd
 have:=List.length_filter_le (fun c=>decide (c<h / 4)) (gs.take k)
 have:=List.length_take_le k gs
 omega
theorem ahd_succ {gs:List Nat}{k:Nat}(hk:k<gs.length)(h:Nat):ahd gs h (k+1)=ahd gs h k+if gs.getD k 0<h / 4 then 1 else 0:=by
 unfold ahd
 rw [List.take_succ_eq_append_getElem hk,List.filter_append,List.length_append,List.getD_eq_getElem?_getD,List.getElem?_eq_getElem hk]
 by_cases e:gs[k]<h / 4 <;> simp [List.filter_cons,e]
theorem ahd_all {gs:List Nat}{k:Nat}(hk:gs.length≤k)(h:Nat):ahd gs h k=(gs.filter (fun c=>decide (c<h / 4))).length:=by
 unfold ahd
 rw [List.take_of_length_le hk]
theorem nats_at {w:World}{A:Option Addr}{n k:Nat}{gs:List Nat}(h:IntsAt w A n (nats gs))(hk:k<n) :
 ∃b o,A=some ⟨b,o,none⟩∧w.cell? ⟨b,o+k,none⟩=some (.int .i64 (gs.getD k 0:Nat)):=by
 obtain ⟨b,o,e,hc⟩:=h.at_ hk
 refine ⟨b,o,e,hc.trans ?_⟩
 have hl:=h.len
 unfold nats at hl ⊢
 rw [List.length_map] at hl
 rw [List.getD_eq_getElem?_getD,List.getD_eq_getElem?_getD,List.getElem?_map,List.getElem?_eq_getElem (by omega)];rfl
set_option maxRecDepth 100000 in
set_option maxHeartbeats 1000000 in
theorem shifted_any (gs:List Nat)(A:Option Addr)(n c h:Nat)(w:World)(hg:IntsAt w A n (nats gs))(hn:n≤100)(hh:h≤100000)(hf:Pl.Few gs) :
 Calls Try.prog 82 #[.int .i64 (h:Int),.slice A n c] w fun e w'=>e = .returned (.int .i64 (Pl.shf gs h:Nat))∧w'=w:=by
 have hl:=hg.len
 unfold nats at hl
 rw [List.length_map] at hl
 have HL:=hide hl
 have HG:=hide hg
 clear hl hg
 go_enter Try.func82,Try.ntmps82
 go_wp2
 go_loop [5,10] (fun b i=>∃k:Nat,k≤n∧i = .int .i64 k∧b = .int .i64 (4 * (ahd gs h k:Nat))) (fun _ i=>n - (intOf i).toNat)
 case atStart=>exact ⟨0,by omega,rfl,rfl⟩
 case round =>
  obtain ⟨k,hk,rfl,rfl⟩:=hrel
  have hle:=ahd_le gs h k
  by_cases hlt:k<n
  ·obtain ⟨b,o,rfl,hc⟩:=nats_at HG.out hlt
   have HS:=hide (ahd_succ (gs:=gs) (k:=k) (by have:=HL.out;omega) h)
   obtain ⟨x,hx⟩:∃x,x=gs.getD k 0:=⟨_,rfl⟩
   rw [←hx] at hc HS
   clear hx
   by_cases ht:x<h / 4
   ·have HT:=hide ht
    have t1:decide ((x:Int)<(h:Int) / 4)=true:=by simp;omega
    clear ht
    go_wp2
    go_round
    case rel=>exact ⟨k+1,by omega,by go_num,by rw [HS.out,if_pos HT.out];go_num⟩
    case measure=>simp [intOf];omega
   ·have HT:=hide ht
    have t1:decide ((x:Int)<(h:Int) / 4)=false:=by simp;omega
    clear ht
    go_wp2
    go_round
    case rel=>exact ⟨k+1,by omega,by go_num,by rw [HS.out,if_neg HT.out];go_num⟩
    case measure=>simp [intOf];omega
  ·go_wp2
   go_ret
   refine ⟨ret_int ?_,rfl⟩
   have h1:=ahd_all (gs:=gs) (k:=k) (by have:=HL.out;omega) h
   have h2:=Pl.shf_le hf h
   unfold Pl.shf
   rw [h1]
   omega
end Go.Proofs.Ytobbepmlmbbamaa
end
section
namespace Go.Proofs.Ytobbepmlmbbamaa.Pl
section
variable {S:Nat→Prop} {r a t:Nat→Nat} {h0 h1 h2 p0 p1 p2 u0 u1 u2 v0 v1 v2:Nat}
theorem perm_flip:[u0,u1,u2,v0,v1,v2,h0,h1,h2,p0,p1,p2].Perm [h0,h1,h2,p0,p1,p2,u0,u1,u2,v0,v1,v2] :=
 List.perm_append_comm (l₁:=[u0,u1,u2,v0,v1,v2]) (l₂:=[h0,h1,h2,p0,p1,p2])
theorem Tri.flip (T:Tri S r a t h0 h1 h2 p0 p1 p2 u0 u1 u2 v0 v1 v2):Tri S r (cj t a) t u0 u1 u2 v0 v1 v2 h0 h1 h2 p0 p1 p2:=by
 refine ⟨fun x hx=>T.mem x (perm_flip.mem_iff.1 hx),T.rp0,T.rp1,T.rp2,T.rh0,T.rh1,T.rh2,T.rv0,T.rv1,T.rv2,T.ru0,T.ru1,T.ru2,?_,?_,?_,?_,?_,?_,?_,T.th0,T.th1,T.th2,T.tv1,T.tv2,T.tv0,T.tp0,T.tp1,T.tp2,T.tu2,T.tu0,T.tu1,fun x hx=>T.tx x (fun h=>hx (perm_flip.mem_iff.2 h))⟩
 ·unfold cj;rw [T.tu0,T.ap1,T.th0]
 ·unfold cj;rw [T.tu1,T.ap2,T.th1]
 ·unfold cj;rw [T.tu2,T.ap0,T.th2]
 ·unfold cj;rw [T.tv1,T.ah0,T.tp1]
 ·unfold cj;rw [T.tv2,T.ah1,T.tp2]
 ·unfold cj;rw [T.tv0,T.ah2,T.tp0]
 ·exact perm_flip.nodup_iff.2 T.nd
end
structure Sj (N:Nat) (m f:Nat→Nat) (Ou In:Nat→Prop):Prop where
 lt:∀x,x<N→m x<N
 inv:∀x,x<N→m (m x)=x
 fl:∀x,x<N→f x<N
 ff:∀x,f (f x)=x
 fO:∀x,Ou x→In (f x)
 fx:∀x,¬Ou x→¬In x→f x=x
 fI:∀x,In x→Ou (f x)
 mI:∀x,In x→In (m x)
 no:∀x,Ou x→¬In x
variable {N:Nat} {m f:Nat→Nat} {Ou In:Nat→Prop}
theorem Sj.far (h:Sj N m f Ou In){u:Nat}(hu:u<N)(ho:Ou u)(hm:¬Ou (m u)):f (m u)=m u :=
 h.fx _ hm (fun hi=>h.no u ho (by have:=h.mI _ hi;rwa [h.inv u hu] at this))
theorem Sj.step (h:Sj N m f Ou In){l:List Nat}{k:Nat}(hl:Half N m (cj f m) (fun x=>∃u,u<k∧Ou u∧(x=f u∨x=f (m u))) l)(hk:k<N)(ho:Ou k) :
 Half N m (cj f m) (fun x=>∃u,u<k+1∧Ou u∧(x=f u∨x=f (m u))) ((l.set (f k) (f (m k))).set (f (m k)) (f k)):=by
 refine (hl.join (h.fl _ hk) (h.fl _ (h.lt _ hk)) (by unfold cj;rw [h.ff]) (by unfold cj;rw [h.ff,h.inv k hk])).mono ?_
 rintro x ⟨u,hu,hou,hx⟩
 by_cases e:u=k
 ·subst e
  exact hx.elim (fun h => .inr (.inl h)) (fun h => .inr (.inr h))
 ·exact .inl ⟨u,by omega,hou,hx⟩
theorem Sj.skip {l:List Nat}{k:Nat}(hl:Half N m (cj f m) (fun x=>∃u,u<k∧Ou u∧(x=f u∨x=f (m u))) l)(ho:¬Ou k) :
 Half N m (cj f m) (fun x=>∃u,u<k+1∧Ou u∧(x=f u∨x=f (m u))) l:=by
 refine hl.mono ?_
 rintro x ⟨u,hu,hou,hx⟩
 by_cases e:u=k
 ·subst e;exact absurd hou ho
 ·exact ⟨u,by omega,hou,hx⟩
theorem Sj.all (h:Sj N m f Ou In){l:List Nat}{W:Nat→Prop}(hl:Half N m (cj f m) W l)(hw:∀u,u<N→Ou u→W (f u)∧W (f (m u))∧W u):∀x,x<N→l.getD x 0=cj f m x:=by
 refine hl.all (fun x hx=>?_)
 by_cases h1:Ou x
 ·exact .inl (hw x hx h1).2.2
 ·by_cases h2:In x
  ·have:=(hw (f x) (h.fl x hx) (h.fI x h2)).1
   rw [h.ff] at this
   exact .inl this
  ·have e:=h.fx x h1 h2
   by_cases h3:Ou (m x)
   ·have:=(hw (m x) (h.lt x hx) h3).2.1
    rw [h.inv x hx,e] at this
    exact .inl this
   ·have h4:¬In (m x):=fun hi=>h2 (by have:=h.mI _ hi;rwa [h.inv x hx] at this)
    refine .inr ?_
    unfold cj
    rw [e,h.fx _ h3 h4]
end Go.Proofs.Ytobbepmlmbbamaa.Pl
end
section
namespace Go.Proofs.Ytobbepmlmbbamaa
open Go.RowKit
def inR (n:Nat)(m:Mv):Prop :=
 if m.kind=1 then -1≤m.x∧m.x<4 * n∧m.y=0∧(m.sign=1∨m.sign = -1)
 else if m.kind=2 then 0≤m.x∧m.x<n∧m.y=0∧m.sign=0∧m.over=false
 else if m.kind=4 then 0≤m.x∧m.x<m.y∧m.y<n∧m.sign=0∧m.over=false
 else if m.kind=5 then 0≤m.x∧m.x<4 * n∧m.y=0∧m.sign=0∧m.over=false
 else -2≤m.x∧m.x<4 * n ∧ -2≤m.y∧m.y<4 * n∧(if m.x≠m.y then m.sign=0 else if m.x<0 then m.sign=0∨m.sign=1 else m.sign=1∨m.sign = -1)
def InPost (n:Nat)(m:Mv)(w:World)(e:Ending)(w':World):Prop:=e = .returned (.bool (Pl.vb (inR n m)))∧Below w.heap.size w w'
theorem in_ret {p:Prop}{b:Bool}(h:b=true↔p):Ending.returned (.bool b) = .returned (.bool (Pl.vb p)):=by
 refine ret_bool ?_
 rw [Bool.eq_iff_iff,Pl.vb_iff,h]
set_option maxRecDepth 100000 in
set_option maxHeartbeats 1000000 in
theorem inRange_1 (n:Nat)(x y s:Int)(o:Bool)(w:World)(hn:n≤1000) :
 Calls Try.prog 46 #[.int .i64 (n:Int),(Mv.mk 1 x y s o).v] w (InPost n ⟨1,x,y,s,o⟩ w):=by
 unfold Mv.v
 by_cases hs:s=0
 ·subst hs
  cases o
  all_goals
   go_enter Try.func46,Try.ntmps46
   go_wp2
   all_goals
    go_ret
    refine ⟨in_ret ?_,(Below.refl _ _).alloc (Nat.le_refl _) _⟩
    unfold inR
    (try simp only [beq_iff_eq,beq_eq_false_iff_ne,ne_eq,bne_iff_ne,decide_eq_true_eq,decide_eq_false_iff_not] at *);(first | (simp;done) | (simp;omega) | omega | (simp_all;done) | (simp_all;omega))
 ·have t0:(s == 0)=false:=by simpa using hs
  go_enter Try.func46,Try.ntmps46
  go_wp2
  all_goals
   go_ret
   refine ⟨in_ret ?_,(Below.refl _ _).alloc (Nat.le_refl _) _⟩
   unfold inR
   (try simp only [beq_iff_eq,beq_eq_false_iff_ne,ne_eq,bne_iff_ne,decide_eq_true_eq,decide_eq_false_iff_not] at *);(first | (simp;done) | (simp;omega) | omega | (simp_all;done) | (simp_all;omega))
set_option maxRecDepth 100000 in
set_option maxHeartbeats 1000000 in
theorem inRange_3 (n:Nat)(x y s:Int)(o:Bool)(w:World)(hn:n≤1000) :
 Calls Try.prog 46 #[.int .i64 (n:Int),(Mv.mk 3 x y s o).v] w (InPost n ⟨3,x,y,s,o⟩ w):=by
 unfold Mv.v
 by_cases hs:s=0
 ·subst hs
  cases o
  all_goals
   go_enter Try.func46,Try.ntmps46
   go_wp2
   all_goals
    go_ret
    refine ⟨in_ret ?_,(Below.refl _ _).alloc (Nat.le_refl _) _⟩
    unfold inR
    (try simp only [beq_iff_eq,beq_eq_false_iff_ne,ne_eq,bne_iff_ne,decide_eq_true_eq,decide_eq_false_iff_not] at *);(first | (simp;done) | (simp;omega) | omega | (simp_all;done) | (simp_all;omega))
 ·have t0:(s == 0)=false:=by simpa using hs
  go_enter Try.func46,Try.ntmps46
  go_wp2
  all_goals
   go_ret
   refine ⟨in_ret ?_,(Below.refl _ _).alloc (Nat.le_refl _) _⟩
   unfold inR
   (try simp only [beq_iff_eq,beq_eq_false_iff_ne,ne_eq,bne_iff_ne,decide_eq_true_eq,decide_eq_false_iff_not] at *);(first | (simp;done) | (simp;omega) | omega | (simp_all;done) | (simp_all;omega))
end Go.Proofs.Ytobbepmlmbbamaa
end
section
namespace Go.Proofs.Ytobbepmlmbbamaa.Pl
theorem shf_two {x y h:Nat}(hxy:x<y):shf [x] (shf [y] h)=shf [x,y] h:=by
 rw [shf_one,shf_one]
 unfold shf
 by_cases a:x<h / 4 <;> by_cases b:y<h / 4 <;> simp [List.filter_cons,a,b] <;> (try split) <;> omega
def up (y c:Nat):Nat:=if c<y then c else c+1
theorem mem_left {n c:Nat}{gs:List Nat}(h:c ∈ left n gs):c<n:=by
 unfold left at h
 exact List.mem_range.1 (List.mem_filter.1 h).1
theorem map_up_lt {l:List Nat}{y:Nat}(h:∀c,c ∈ l→c<y):l.map (up y)=l:=by
 conv=>rhs;rw [←List.map_id l]
 exact List.map_congr_left fun c hc=>by unfold up;rw [if_pos (h c hc)];rfl
theorem left_up {y:Nat}:∀n,y≤n→left (n+1) [y]=(List.range n).map (up y)
 | 0, h => by
   obtain rfl:y=0:=by omega
   rfl
 | n + 1, h => by
   rcases Nat.lt_or_ge n y with q | q
   ·obtain rfl:y=n+1:=by omega
    rw [left_succ,map_up_lt (fun c hc=>List.mem_range.1 hc),left_none (fun k hk=>by simp;omega)]
    simp
   ·rw [left_succ,left_up n q,List.range_succ (n:=n),List.map_append]
    have e:([y]:List Nat).contains (n+1)=false:=by simp;omega
    rw [e]
    simp only [Bool.false_eq_true,if_false,List.map_cons,List.map_nil]
    unfold up
    rw [if_neg (by omega)]
theorem left_up2 {x y:Nat}(hxy:x<y):∀n,y≤n→left (n+1) [x,y]=(left n [x]).map (up y)
 | 0,h=>by omega
 | n + 1, h => by
   rcases Nat.lt_or_ge n y with q | q
   ·obtain rfl:y=n+1:=by omega
    rw [left_succ,map_up_lt (fun c hc=>mem_left hc)]
    have e:([x,n+1]:List Nat).contains (n+1)=true:=by simp
    rw [e]
    simp only [if_true,List.append_nil]
    unfold left
    exact List.filter_congr fun c hc=>by
     have:=List.mem_range.1 hc
     have e2:([x,n+1]:List Nat).contains c=([x]:List Nat).contains c:=by
      rw [Bool.eq_iff_iff];simp;omega
     rw [e2]
   ·rw [left_succ,left_up2 hxy n q,left_succ (n:=n),List.map_append]
    have e:([x,y]:List Nat).contains (n+1)=false:=by simp;omega
    have e2:([x]:List Nat).contains n=false:=by simp;omega
    rw [e,e2]
    simp only [Bool.false_eq_true,if_false,List.map_cons,List.map_nil]
    unfold up
    rw [if_neg (show ¬n<y by omega)]
theorem flat_get (f:Nat→Nat):∀(l:List Nat) (c i:Nat),i<4→(h:c<l.length)→(l.flatMap (four f)).getD (4 * c+i) 0=f (4 * l[c]+i)
 | [],c,i,_,h=>absurd h (Nat.not_lt_zero c)
 | a :: l, 0, i, hi, h => by
   rw [List.flatMap_cons,List.getD_eq_getElem?_getD,List.getElem?_append_left (by simp [four];omega)]
   have:i=0∨i=1∨i=2∨i=3:=by omega
   rcases this with rfl | rfl | rfl | rfl <;> simp [four]
 | a :: l, c + 1, i, hi, h => by
   have ih:=flat_get f l c i hi (by simpa using h)
   rw [List.getD_eq_getElem?_getD] at ih
   rw [List.flatMap_cons,List.getD_eq_getElem?_getD,List.getElem?_append_right (by simp [four];omega)]
   rw [show 4 * (c+1)+i - (four f a).length=4 * c+i by simp [four];omega,ih]
   simp
theorem drop2_S {sg:List Int}{x y:Nat}(hxy:x<y)(hy:y<sg.length):shrS [x] (shrS [y] sg)=shrS [x,y] sg:=by
 obtain ⟨n,hn⟩:∃n,sg.length=n+1:=⟨sg.length - 1,by omega⟩
 have e1:shrS [y] sg=(List.range n).map (fun c=>sg.getD (up y c) 0):=by
  unfold shrS
  rw [hn,left_up n (by omega),List.map_map];rfl
 rw [e1]
 unfold shrS
 rw [hn,left_up2 hxy n (by omega),List.map_map,List.length_map,List.length_range]
 refine List.map_congr_left fun c hc=>?_
 have:=mem_left hc
 show ((List.range n).map (fun c=>sg.getD (up y c) 0)).getD c 0=sg.getD (up y c) 0
 rw [List.getD_eq_getElem?_getD,List.getElem?_map,List.getElem?_range this]
 rfl
theorem drop2_M {mt:List Nat}{n x y:Nat}(hxy:x<y)(hy:y≤n):shrM [x] n (shrM [y] (n+1) mt)=shrM [x,y] (n+1) mt:=by
 obtain ⟨M,hM⟩:∃M,M=shrM [y] (n+1) mt:=⟨_,rfl⟩
 have g:∀c,c<n→∀i,i<4→shf [x] (M.getD (4 * c+i) 0)=shf [x,y] (mt.getD (4 * up y c+i) 0):=fun c hc i hi=>by
  rw [hM]
  unfold shrM
  rw [left_up n hy,flat_get _ _ c i hi (by simpa using hc),shf_two hxy]
  simp
 rw [←hM]
 unfold shrM
 rw [left_up2 hxy n hy]
 have key:∀l:List Nat,(∀c,c ∈ l→c<n)→l.flatMap (four (fun h=>shf [x] (M.getD h 0)))=(l.map (up y)).flatMap (four (fun h=>shf [x,y] (mt.getD h 0))):=by
  intro l
  induction l with
  | nil=>intro _;rfl
  | cons c l ih =>
    intro h
    have hc:=h c (by simp)
    rw [List.map_cons,List.flatMap_cons,List.flatMap_cons,ih (fun c hc=>h c (by simp [hc]))]
    congr 1
    have g0:=g c hc 0 (by omega)
    rw [Nat.add_zero,Nat.add_zero] at g0
    show [shf [x] (M.getD (4 * c) 0),shf [x] (M.getD (4 * c+1) 0),shf [x] (M.getD (4 * c+2) 0),shf [x] (M.getD (4 * c+3) 0)]=[shf [x,y] (mt.getD (4 * up y c) 0),shf [x,y] (mt.getD (4 * up y c+1) 0),shf [x,y] (mt.getD (4 * up y c+2) 0),shf [x,y] (mt.getD (4 * up y c+3) 0)]
    rw [g0,g c hc 1 (by omega),g c hc 2 (by omega),g c hc 3 (by omega)]
 exact key _ (fun c hc=>mem_left hc)
end Go.Proofs.Ytobbepmlmbbamaa.Pl
end
section
namespace Go.Proofs.Ytobbepmlmbbamaa
open Go Go.ChangeShapes Go.WideShapes Go.ChangeAt Go.RowKit Go.Deep
theorem spot_noneM {w:World}{a:Addr}{v:Value}(h:w.cell? a=some v):a=⟨a.block,a.off,none⟩:=by
 obtain ⟨b,o,sp⟩:=a
 cases sp with
 | none=>rfl
 | some s =>
   unfold World.cell? at h
   simp only at h
   split at h
   ·simp at h
   ·cases h
theorem addr_formM {w:World}{a:Addr}{v:Value}(h:w.cell? (a.add 0)=some v):∃b o,a=⟨b,o,none⟩:=⟨_,_,spot_noneM h⟩
section
variable {H:Type} {enc:TypeId × Value→H} {w:World} {base:Nat} {spare:Nat→Bool} {held:Bool} {fuel:Nat}
theorem ints_of_trod {v:Value}{y:DataW H × List MemPlace}(h:DataW.trod enc Try.prog w base spare held fuel 22 [v]=some y):∃(A:Option Addr) (n c:Nat) (xs:List Int),v = .slice A n c∧n≤maxLen∧IntsAt w A n xs:=by
 rcases open_ints Try.underlying22 Try.underlying3 (by kernel_rfl) h with ⟨h1,_⟩ | ⟨a,len,cap,zs,h1,_,hl,hm,hsl,_,hc,_⟩
 ·obtain rfl:v = .slice none 0 0:=by simpa using h1
  exact ⟨none,0,0,[],rfl,by unfold maxLen;omega,RowAt.nil w⟩
 ·obtain rfl:v = .slice (some a) len cap:=by simpa using h1
  have hle:len≤zs.length:=by rw [hsl];split <;> omega
  refine ⟨some a,len,cap,zs.take len,rfl,by omega,by simp;omega,fun hn=>?_⟩
  obtain ⟨b,o,rfl⟩:=addr_formM (hc 0 (by omega))
  refine ⟨b,o,rfl,fun j u hu=>?_⟩
  rw [List.getElem?_map] at hu
  obtain ⟨s,hs,rfl⟩:=Option.map_eq_some_iff.1 hu
  have hj:j<len:=by
   rcases Nat.lt_or_ge j len with h | h
   ·exact h
   ·rw [List.getElem?_eq_none (by simp;omega)] at hs;cases hs
  have:=hc j (by omega)
  rw [Addr.add_lit] at this
  rw [this]
  rw [List.getElem?_take_of_lt hj] at hs
  rw [List.getD_eq_getElem?_getD,hs]
  rfl
theorem int_of_trod {v:Value}{y:DataW H × List MemPlace}(h:DataW.trod enc Try.prog w base spare held fuel 3 [v]=some y):∃n:Int,v = .int .i64 n ∧ -9223372036854775808≤n∧n≤9223372036854775807:=by
 obtain ⟨n,h1,_,hw⟩:=DataW.trod_int Try.underlying3 h
 obtain rfl:v = .int .i64 n:=by simpa using h1
 refine ⟨n,rfl,?_⟩
 simp only [Lit.wf,Bool.and_eq_true,decide_eq_true_eq] at hw
 have h1:(IntKind.i64.min:Int) = -9223372036854775808:=by rfl
 have h2:(IntKind.i64.max:Int)=9223372036854775807:=by rfl
 rw [h1,h2] at hw
 exact hw
set_option maxRecDepth 100000 in
theorem open_dg {r:Reach}{b0:Nat}{v:Value}{d:DataW H}{p:List MemPlace}(hval:Value.okWide Try.prog w r b0 24 v)(h:DataW.Trod enc Try.prog w base spare held 24 v d p) :
 ∃(A B:Option Addr) (n q cp cq:Nat) (sg mt:List Int) (lp:Int),v = .agg #[.slice A n cp,.slice B q cq,.int .i64 lp]∧n≤maxLen∧q≤maxLen∧IntsAt w A n sg∧IntsAt w B q mt ∧ -9223372036854775808≤lp∧lp≤9223372036854775807:=by
 obtain ⟨cs,rfl,hsz⟩:=okWide_struct Try.underlying24 hval
 obtain ⟨fuel,hf⟩:=h
 obtain ⟨c0,c1,c2,rfl⟩:∃c0 c1 c2,cs=#[c0,c1,c2]:=by
  have h3:cs.size=3:=hsz.trans (by kernel_rfl)
  obtain ⟨l⟩:=cs
  match l,h3 with
  | [a,b,c],_=>exact ⟨a,b,c,rfl⟩
 have hf':DataW.trod enc Try.prog w base spare held fuel 24 [c0,c1,c2]=some (d,p):=hf
 obtain ⟨xs,n',_,_,_,hxl,hfld⟩:=DataW.trod_struct Try.underlying24 hf'
 have c22:Try.prog.cellsOf 22=1:=by kernel_rfl
 have c3:Try.prog.cellsOf 3=1:=by kernel_rfl
 have g0:DataW.trod enc Try.prog w base spare held n' 22 (([c0,c1,c2].drop 0).take (Try.prog.cellsOf 22))=xs[0]?:=hfld 0 _ rfl
 have g1:DataW.trod enc Try.prog w base spare held n' 22 (([c0,c1,c2].drop 1).take (Try.prog.cellsOf 22))=xs[1]?:=hfld 1 _ rfl
 have g2:DataW.trod enc Try.prog w base spare held n' 3 (([c0,c1,c2].drop 2).take (Try.prog.cellsOf 3))=xs[2]?:=hfld 2 _ rfl
 rw [c22] at g0 g1
 rw [c3] at g2
 simp only [List.drop_zero,List.drop_succ_cons,List.take_succ_cons,List.take_zero] at g0 g1 g2
 have x0:xs[0]? = some (xs[0]'(by rw [hxl];decide)):=List.getElem?_eq_getElem _
 have x1:xs[1]? = some (xs[1]'(by rw [hxl];decide)):=List.getElem?_eq_getElem _
 have x2:xs[2]? = some (xs[2]'(by rw [hxl];decide)):=List.getElem?_eq_getElem _
 rw [x0] at g0
 rw [x1] at g1
 rw [x2] at g2
 obtain ⟨A,n,cp,sg,rfl,hn,hs⟩:=ints_of_trod g0
 obtain ⟨B,q,cq,mt,rfl,hq,hm⟩:=ints_of_trod g1
 obtain ⟨lp,rfl,h1,h2⟩:=int_of_trod g2
 exact ⟨A,B,n,q,cp,cq,sg,mt,lp,rfl,hn,hq,hs,hm,h1,h2⟩
end
end Go.Proofs.Ytobbepmlmbbamaa
end
section
namespace Go.Proofs.Ytobbepmlmbbamaa
open Go Go.ChangeShapes Go.WideShapes Go.ChangeAt Go.RowKit Go.Deep
set_option maxRecDepth 100000 in
theorem open_i64 {H:Type}{enc:TypeId × Value→H}{w:World}{base:Nat}{spare:Nat→Bool}{held:Bool}{r:Reach}{b0:Nat}{v:Value}{d:DataW H}{p:List MemPlace}(hval:Value.okWide Try.prog w r b0 3 v)(h:DataW.Trod enc Try.prog w base spare held 3 v d p) :
 ∃n:Int,v = .int .i64 n ∧ -9223372036854775808≤n∧n≤9223372036854775807:=by
 obtain ⟨n,rfl⟩:=okWide_int Try.underlying3 hval
 obtain ⟨fuel,hf⟩:=h
 have hf':DataW.trod enc Try.prog w base spare held fuel 3 [.int .i64 n]=some (d,p):=hf
 exact int_of_trod hf'
end Go.Proofs.Ytobbepmlmbbamaa
end
