/-
 The texts Open, Dn, Ha, Lm, Hd, Hj, Ld, Ni, Nz.
-/
import Derived.Test.YtghdiolnonejaaaGreatDoorE06
import Derived.Test.YtghdiolnonejaaaGreatDoorE08
import Derived.Test.YtghdiolnonejaaaGreatDoorE14
import Derived.Lib.ItoaLen
import Derived.Lib.ItoaNum
import Derived.Lib.SmallJoins
import Derived.Maps.OwnSet
import Derived.StringKeys
set_option linter.unusedVariables false
set_option linter.unusedSimpArgs false
section
namespace Go.Proofs.YtghdiolnonejaaaGreatDoor
open Go.ChangeShapes Go.WideShapes Go.ChangeAt Go.RowKit Go.Deep
section
variable {H:Type} {enc:TypeId × Value → H} {P:Program} {w:World} {base:Nat} {spare:Nat → Bool} {held:Bool}
theorem post_of_below {f:Func} {s:ChangeSpec} {apart fresh handsOn again:Bool} {W W':World} {args:Array Value} {v:Value} {ds gs:List (DataW H)} {before pa pv:List MemPlace}
 (hW:DataW.Whole enc P f.params.toList s.vars apart W args.toList ds gs before)
 (hres:∀ (b:Nat) (sp:Nat → Bool) (hd:Bool),DataW.TrodAll enc P W' b sp hd f.resultTypes.toList (v.resultList f.resultTypes.size) (s.fn H (ds ++ gs)).results [])
 (hargs:∀ sp:Nat → Bool,(∀ p ∈ before,sp p.block = true) → DataW.TrodAll enc P W' 0 sp true f.params.toList args.toList (s.fn H (ds ++ gs)).args pa)
 (hvars:∀ sp:Nat → Bool,(∀ p ∈ before,sp p.block = true) → DataW.TrodVars enc P W' sp s.vars (s.fn H (ds ++ gs)).vars pv)
 (hps:before = pa ++ pv) (hb:Below W.heap.size W W')
 (hok:∀ (j:Nat) (t:TypeId) (r:Value),f.resultTypes[j]? = some t → (v.resultList f.resultTypes.size)[j]? = some r → Value.okWide P W' .any 0 t r) :
 s.post enc P f apart fresh handsOn again W args v W' := by
 have hlt:∀ p ∈ before,p.block < W.heap.size:=fun p hp => hW.lt p hp
 have hold:∀ p ∈ before,(fun b => decide (b < W.heap.size)) p.block = true:=fun p hp => by simpa using hlt p hp
 refine ⟨ds,gs,before,[],pa,pv,hW,hres _ _ _,hargs _ hold,hvars _ hold,World.keptBut_mono (fun p hp => ⟨hp,?_⟩) (hb.frame (· ∈ before)),fun _ => ?_⟩
 ·rw [hps,List.mem_append] at hp
  exact Or.inr hp
 ·obtain ⟨_,_,_,_,_,hz,hn⟩:=hW
  refine ⟨hok,_,_,([] ++ pa) ++ pv,⟨[] ++ pa,pv,trodAll_append (hargs _ (fun _ _ => rfl)) (hres _ _ _),hvars _ (fun _ _ => rfl),rfl,?_,?_⟩,?_⟩
  ·intro b off hp
   have hin:MemPlace.cell b off ∈ before:=by rw [hps]; simpa using hp
   rw [hb.frozen (hlt _ hin)]
   exact hz b off hin
  ·intro ha
   have:=hn ha
   rw [hps] at this
   simpa using this
  ·intro p hp _
   rw [hps]
   simpa using hp
end
end Go.Proofs.YtghdiolnonejaaaGreatDoor
end
section
namespace Go.Proofs.YtghdiolnonejaaaGreatDoor
open Go Go.RowKit
noncomputable def dn:Nat → Pl.Dg → Pl.Dg × List Mv
 | 0,d => (d,[])
 | k + 1, d => match remL d with
   | [] => (d,[])
   | z :: _ => ((dn k (apD d z)).1,z :: (dn k (apD d z)).2)
noncomputable def dnD (d:Pl.Dg):Pl.Dg := (dn d.n d).1
noncomputable def dnM (d:Pl.Dg):List Mv := (dn d.n d).2
theorem dn_none {d:Pl.Dg} (h:remL d = []):∀ k,dn k d = (d,[])
 | 0 => rfl
 | k + 1 => by unfold dn; rw [h]
theorem dn_some {d:Pl.Dg} {z:Mv} {l:List Mv} (h:remL d = z :: l) (k:Nat):dn (k + 1) d = ((dn k (apD d z)).1,z :: (dn k (apD d z)).2) := by
 rw [dn,h]
theorem rem_ok {d:Pl.Dg} {z:Mv} (h:z ∈ remL d):apC d z = 0 ∧ (z.kind = 2 ∨ z.kind = 4) := by
 unfold remL at h
 rcases List.mem_append.1 h with h | h
 ·exact ⟨(mem_sel.1 h).2,.inl (un_kind h)⟩
 ·exact ⟨(mem_sel.1 h).2,.inr (up_kind h)⟩
theorem rem_less {d:Pl.Dg} (hd:Pl.Valid d) {z:Mv} (h:z ∈ remL d):(apD d z).n + 1 ≤ d.n := by
 obtain ⟨h1,h2⟩:=rem_ok h
 have e:((apD d z).n:Int) = (d.n:Int) + moreK z:=(signs_law hd z h1).2.1
 obtain ⟨a,ha⟩:∃ a,a = (apD d z).n := ⟨_,rfl⟩
 obtain ⟨b,hb⟩:∃ b,b = d.n := ⟨_,rfl⟩
 rw [← ha,← hb] at e ⊢
 unfold moreK at e
 rcases h2 with h2 | h2 <;> simp [h2] at e <;> omega
theorem rem_flat {d:Pl.Dg} (hn:d.n = 0):remL d = [] := by
 unfold remL
 rw [hn]
 rfl
theorem dn_more {d:Pl.Dg} (hd:Pl.Valid d):∀ k,d.n ≤ k → dn k d = dn d.n d := by
 suffices h:∀ n,∀ d:Pl.Dg,Pl.Valid d → d.n ≤ n → ∀ k j,d.n ≤ k → d.n ≤ j → dn k d = dn j d from fun k hk => h d.n d hd (Nat.le_refl _) k d.n hk (Nat.le_refl _)
 intro n
 induction n with
 | zero =>
   intro d hd h0 k j _ _
   have e:=rem_flat (d := d) (by omega)
   rw [dn_none e,dn_none e]
 | succ n ih =>
   intro d hd hn k j hk hj
   cases hr:remL d with
   | nil => rw [dn_none hr,dn_none hr]
   | cons z l =>
     have hz:z ∈ remL d:=by rw [hr]; exact List.mem_cons_self
     have hl:=rem_less hd hz
     have hv:=(ap_ok hd (rem_ok hz).1).1
     obtain ⟨k',rfl⟩:∃ k',k = k' + 1 := ⟨k - 1,by omega⟩
     obtain ⟨j',rfl⟩:∃ j',j = j' + 1 := ⟨j - 1,by omega⟩
     rw [dn_some hr,dn_some hr,ih _ hv (by omega) k' j' (by omega) (by omega)]
theorem dn_next {d:Pl.Dg} (hd:Pl.Valid d) {z:Mv} {l:List Mv} (h:remL d = z :: l):dnD d = dnD (apD d z) ∧ dnM d = z :: dnM (apD d z) := by
 have hz:z ∈ remL d:=by rw [h]; exact List.mem_cons_self
 have hl:=rem_less hd hz
 have hv:=(ap_ok hd (rem_ok hz).1).1
 obtain ⟨k,hk⟩:∃ k,d.n = k + 1 := ⟨d.n - 1,by omega⟩
 unfold dnD dnM
 rw [hk,dn_some h,dn_more hv k (by omega)]
 exact ⟨rfl,rfl⟩
theorem dn_stop {d:Pl.Dg} (h:remL d = []):dnD d = d ∧ dnM d = [] := by
 unfold dnD dnM
 rw [dn_none h]
 exact ⟨rfl,rfl⟩
theorem dnM_nil {d:Pl.Dg} (hd:Pl.Valid d):dnM d = [] ↔ remL d = [] := by
 constructor
 ·intro h
  cases hr:remL d with
  | nil => rfl
  | cons z l => rw [(dn_next hd hr).2] at h; cases h
 ·exact fun h => (dn_stop h).2
def dgL (l:Nat):Pl.Dg := ⟨[],[],l⟩
def dgT:Pl.Dg := ⟨[1,-1],[6,5,4,7,2,1,0,3],0⟩
theorem dgL_valid (l:Nat) (hl:l ≤ 64):Pl.Valid (dgL l) := valid_empty hl
theorem dgT_is:apC (dgL 2) ⟨3,-2,-2,0,true⟩ = 0 ∧ apD (dgL 2) ⟨3,-2,-2,0,true⟩ = dgT := by
 constructor
 ·rw [apC_in (by decide) (by unfold inR; decide)]
  rw [if_neg (by decide),if_neg (by decide),if_pos rfl]
  unfold pkQ
  rw [if_neg (by decide),if_neg (by rw [Pl.vb_iff]; intro h; exact absurd h.1 (by decide)),if_neg (by decide)]
 ·decide
theorem dgT_valid:Pl.Valid dgT := by
 rw [← dgT_is.2]
 exact (ap_ok (dgL_valid 2 (by omega)) dgT_is.1).1
theorem dgT_rem:remL dgT = [⟨4,0,1,0,false⟩] := by
 unfold remL
 show sel dgT [⟨2,(0:Nat),0,0,false⟩,⟨2,(1:Nat),0,0,false⟩] ++ sel dgT [⟨4,(0:Nat),(1:Nat),0,false⟩] = _
 rw [sel_cons,sel_cons,sel_cons,sel_nil,un_code (d := dgT) (c := 0) (by decide),un_code (d := dgT) (c := 1) (by decide),up_code (d := dgT) (x := 0) (y := 1) (by decide) (by decide),one_no (show ¬ uncC dgT 0 = 0 by decide),one_no (show ¬ uncC dgT 1 = 0 by decide),one_yes (show unpC dgT 0 1 = 0 by decide)]
 rfl
theorem dgT_ap:apD dgT ⟨4,0,1,0,false⟩ = dgL 2 := by decide
theorem dgT_dn:dnD dgT = dgL 2 ∧ dnM dgT = [⟨4,0,1,0,false⟩] := by
 obtain ⟨h1,h2⟩:=dn_next dgT_valid dgT_rem
 obtain ⟨h3,h4⟩:=dn_stop (d := dgL 2) (rem_flat rfl)
 rw [h1,h2,dgT_ap,h3,h4]
 exact ⟨rfl,rfl⟩
theorem tref_rem:remL Pl.tref = [] := by
 unfold remL
 show sel Pl.tref [⟨2,(0:Nat),0,0,false⟩,⟨2,(1:Nat),0,0,false⟩,⟨2,(2:Nat),0,0,false⟩] ++ sel Pl.tref [⟨4,(0:Nat),(1:Nat),0,false⟩,⟨4,(0:Nat),(2:Nat),0,false⟩,⟨4,(1:Nat),(2:Nat),0,false⟩] = _
 rw [sel_cons,sel_cons,sel_cons,sel_cons,sel_cons,sel_cons,sel_nil,un_code (d := Pl.tref) (c := 0) (by decide),un_code (d := Pl.tref) (c := 1) (by decide),un_code (d := Pl.tref) (c := 2) (by decide),up_code (d := Pl.tref) (x := 0) (y := 1) (by decide) (by decide),up_code (d := Pl.tref) (x := 0) (y := 2) (by decide) (by decide),up_code (d := Pl.tref) (x := 1) (y := 2) (by decide) (by decide),one_no (show ¬ uncC Pl.tref 0 = 0 by decide),one_no (show ¬ uncC Pl.tref 1 = 0 by decide),one_no (show ¬ uncC Pl.tref 2 = 0 by decide),one_no (show ¬ unpC Pl.tref 0 1 = 0 by decide),one_no (show ¬ unpC Pl.tref 0 2 = 0 by decide),one_no (show ¬ unpC Pl.tref 1 2 = 0 by decide)]
 rfl
end Go.Proofs.YtghdiolnonejaaaGreatDoor
end
section
namespace Go.Proofs.YtghdiolnonejaaaGreatDoor
open Go Go.RowKit
def keyF (l:List Int):List UInt8 := l.flatMap (fun v => 44 :: Lib.itoa v)
def keyL (l:List Int):List UInt8 := (keyF l).drop 1
theorem keyF_app (a b:List Int):keyF (a ++ b) = keyF a ++ keyF b := by unfold keyF; rw [List.flatMap_append]
theorem keyL_one (x:Int):keyL [x] = Lib.itoa x := by unfold keyL keyF; simp
theorem keyL_snoc {a:List Int} (h:a ≠ []) (x:Int):keyL (a ++ [x]) = keyL a ++ 44 :: Lib.itoa x := by
 unfold keyL
 rw [keyF_app,List.drop_append_of_le_length]
 ·unfold keyF; simp
 ·cases a with
  | nil => exact absurd rfl h
  | cons y l => unfold keyF; simp
open Classical in
noncomputable def codeD (d:Pl.Dg):List Int := if h:∃ ps,Pl.Pcs d ps ∧ Pl.Srt ps then Pl.pcode d.lp h.choose else []
theorem codeD_is {d:Pl.Dg} (hd:Pl.Wf d) {ps:List Pl.Pc} (hp:Pl.Pcs d ps) (hs:Pl.Srt ps):Pl.pcode d.lp ps = codeD d := by
 have h:∃ ps,Pl.Pcs d ps ∧ Pl.Srt ps:=⟨ps,hp,hs⟩
 unfold codeD
 rw [dif_pos h]
 exact (Pl.Iso.refl d).pcode hd hd hp h.choose_spec.1 hs h.choose_spec.2
noncomputable def keyD (d:Pl.Dg):List UInt8 := keyL (codeD d)
structure Nd where
 d:Pl.Dg
 m:Mv
 fr:Int
 s:Nat
def nd0 (d:Pl.Dg):Nd := ⟨d,⟨0,0,0,0,false⟩,-1,0⟩
noncomputable def nd1 (i:Nat) (a:Nd) (z:Mv):Nd := ⟨apD a.d z,z,i,a.s + 1⟩
noncomputable def keysL (l:List Nd):List (List UInt8) := l.map (fun x => keyD x.d)
open Classical in
noncomputable def inn (i:Nat) (a:Nd):List Mv → List Nd → List Nd × Nat
 | [],l => (l,0)
 | z :: r, l =>
   if keyD (apD a.d z) ∈ keysL l then inn i a r l
   else if l.length = 300 then (l,1)
   else if remL (apD a.d z) = [] then inn i a r (l ++ [nd1 i a z])
   else (l ++ [nd1 i a z],2)
section
variable {i:Nat} {a:Nd} {z:Mv} {r:List Mv} {l:List Nd}
theorem inn_known (h:keyD (apD a.d z) ∈ keysL l):inn i a (z :: r) l = inn i a r l := by rw [inn,if_pos h]
theorem inn_full (h:keyD (apD a.d z) ∉ keysL l) (hl:l.length = 300):inn i a (z :: r) l = (l,1) := by rw [inn,if_neg h,if_pos hl]
theorem inn_dull (h:keyD (apD a.d z) ∉ keysL l) (hl:l.length ≠ 300) (hr:remL (apD a.d z) = []):inn i a (z :: r) l = inn i a r (l ++ [nd1 i a z]) := by rw [inn,if_neg h,if_neg hl,if_pos hr]
theorem inn_hit (h:keyD (apD a.d z) ∉ keysL l) (hl:l.length ≠ 300) (hr:remL (apD a.d z) ≠ []):inn i a (z :: r) l = (l ++ [nd1 i a z],2) := by rw [inn,if_neg h,if_neg hl,if_neg hr]
end
noncomputable def slD (d:Pl.Dg):List Mv := slL d (4 * d.n)
open Classical in
noncomputable def outr (k:Nat):Nat → Nat → List Nd → List Nd × Nat
 | 0,_,l => (l,1)
 | f + 1, i, l => match l[i]? with
   | none => (l,1)
   | some a => if k ≤ a.s then outr k f (i + 1) l
     else if (inn i a (slD a.d) l).2 = 0 then outr k f (i + 1) (inn i a (slD a.d) l).1
     else inn i a (slD a.d) l
section
variable {k f i:Nat} {a:Nd} {l:List Nd}
theorem out_end (h:l[i]? = none):outr k f i l = (l,1) := by
 cases f with
 | zero => rfl
 | succ f => rw [outr,h]
theorem out_far (h:l[i]? = some a) (hk:k ≤ a.s):outr k (f + 1) i l = outr k f (i + 1) l := by rw [outr,h]; exact if_pos hk
theorem out_on {l':List Nd} (h:l[i]? = some a) (hk:¬ k ≤ a.s) (hi:inn i a (slD a.d) l = (l',0)):outr k (f + 1) i l = outr k f (i + 1) l' := by
 rw [outr,h]
 show (if k ≤ a.s then _ else _) = _
 rw [if_neg hk,hi,if_pos rfl]
theorem out_done {r:List Nd × Nat} (h:l[i]? = some a) (hk:¬ k ≤ a.s) (hi:inn i a (slD a.d) l = r) (hr:r.2 ≠ 0):outr k (f + 1) i l = r := by
 rw [outr,h]
 show (if k ≤ a.s then _ else _) = _
 rw [if_neg hk,hi,if_neg hr]
end
theorem sl_ok {d:Pl.Dg} {z:Mv} (h:z ∈ slD d):∃ x,x < 4 * d.n ∧ slP d x ∧ z = ⟨5,(x:Nat),0,0,false⟩ ∧ apC d z = 0 ∧ apD d z = sldD d x := by
 obtain ⟨x,hx,hp,rfl⟩:=(slL_mem d z _).1 h
 have hr:inR d.n ⟨5,x,0,0,false⟩:=by unfold inR; simp; omega
 have hc:apC d ⟨5,x,0,0,false⟩ = 0:=by
  have e1:Pl.vb (inR d.n ⟨5,(x:Int),0,0,false⟩) = true:=Pl.vb_true hr
  unfold apC
  rw [e1]
  simp [sldC,hp.2.2]
 exact ⟨x,hx,hp,rfl,hc,by unfold apD; simp⟩
theorem sl_n {d:Pl.Dg} (hd:Pl.Valid d) {z:Mv} (h:z ∈ slD d):Pl.Valid (apD d z) ∧ (apD d z).n = d.n ∧ z.kind = 5 ∧ apC d z = 0 := by
 obtain ⟨x,hx,hp,e,hc,hD⟩:=sl_ok h
 refine ⟨(ap_ok hd hc).1,?_,by rw [e],hc⟩
 rw [hD]
 exact sld_n d x
structure NdOk (d0:Pl.Dg) (k:Nat) (l:List Nd) (j:Nat) (a:Nd):Prop where
 v:Pl.Valid a.d
 n:a.d.n = d0.n
 s:a.s ≤ k
 ty:(j = 0 ∧ a = nd0 d0) ∨ ∃ (p:Nd) (q:Nat),a.fr = (q:Int) ∧ q < j ∧ l[q]? = some p ∧ a.m ∈ slD p.d ∧ a.d = apD p.d a.m ∧ a.s = p.s + 1
structure LOk (d0:Pl.Dg) (k:Nat) (l:List Nd):Prop where
 pos:0 < l.length
 few:l.length ≤ 300
 at_:∀ j a,l[j]? = some a → NdOk d0 k l j a
theorem LOk.start {d0:Pl.Dg} (hd:Pl.Valid d0) (k:Nat):LOk d0 k [nd0 d0] := by
 refine ⟨by simp,by simp,fun j a h => ?_⟩
 have hj:=(List.getElem?_eq_some_iff.1 h).1
 have:j = 0:=by simpa using hj
 subst this
 injection h with h
 subst h
 exact ⟨hd,rfl,Nat.zero_le _,.inl ⟨rfl,rfl⟩⟩
theorem LOk.push {d0:Pl.Dg} {k:Nat} {l:List Nd} (h:LOk d0 k l) (h3:l.length ≠ 300) {q:Nat} {p:Nd} (hp:l[q]? = some p) (hs:¬ k ≤ p.s) {z:Mv} (hz:z ∈ slD p.d):LOk d0 k (l ++ [nd1 q p z]) := by
 have hq:=(List.getElem?_eq_some_iff.1 hp).1
 have P:=h.at_ q p hp
 obtain ⟨v,n,_,_⟩:=sl_n P.v hz
 have hf:=h.few
 refine ⟨by simp,by simp; omega,fun j a ha => ?_⟩
 rw [List.getElem?_append] at ha
 split at ha
 ·rename_i hj
  obtain ⟨a1,a2,a3,a4⟩:=h.at_ j a ha
  refine ⟨a1,a2,a3,a4.imp id ?_⟩
  rintro ⟨p',q',b1,b2,b3,b4,b5,b6⟩
  exact ⟨p',q',b1,b2,by rw [List.getElem?_append_left (by omega)]; exact b3,b4,b5,b6⟩
 ·rename_i hj
  have h1:=(List.getElem?_eq_some_iff.1 ha).1
  have h2:j = l.length:=by simp at h1; omega
  subst h2
  rw [Nat.sub_self] at ha
  injection ha with ha
  subst ha
  exact ⟨v,by show (apD p.d z).n = _; rw [n,P.n],by show p.s + 1 ≤ k; omega,.inr ⟨p,q,rfl,hq,by rw [List.getElem?_append_left hq]; exact hp,hz,rfl,rfl⟩⟩
theorem at_app {l:List Nd} {q:Nat} {p:Nd} (hp:l[q]? = some p) (r:List Nd):(l ++ r)[q]? = some p := by
 rw [List.getElem?_append_left (List.getElem?_eq_some_iff.1 hp).1]; exact hp
theorem inn_ok {d0:Pl.Dg} {k q:Nat} {p:Nd} (hs:¬ k ≤ p.s):∀ (r:List Mv) (l:List Nd),LOk d0 k l → l[q]? = some p → (∀ z,z ∈ r → z ∈ slD p.d) → LOk d0 k (inn q p r l).1 ∧ (inn q p r l).1[q]? = some p
 | [],l,h,hp,_ => ⟨h,hp⟩
 | z :: r, l, h, hp, hr => by
   have hz:=hr z (by simp)
   have hr':=fun y (hy:y ∈ r) => hr y (by simp [hy])
   by_cases h1:keyD (apD p.d z) ∈ keysL l
   ·rw [inn_known h1]; exact inn_ok hs r l h hp hr'
   ·by_cases h2:l.length = 300
    ·rw [inn_full h1 h2]; exact ⟨h,hp⟩
    ·have P:=h.push h2 hp hs hz
     by_cases h3:remL (apD p.d z) = []
     ·rw [inn_dull h1 h2 h3]; exact inn_ok hs r _ P (at_app hp _) hr'
     ·rw [inn_hit h1 h2 h3]; exact ⟨P,at_app hp _⟩
theorem inn_found {q:Nat} {p:Nd}:∀ (r:List Mv) (l:List Nd),(inn q p r l).2 = 2 → ∃ a,(inn q p r l).1.getLast? = some a ∧ remL a.d ≠ []
 | [],l,h => absurd h (show ¬ (0:Nat) = 2 by decide)
 | z :: r, l, h => by
   by_cases h1:keyD (apD p.d z) ∈ keysL l
   ·rw [inn_known h1] at h ⊢; exact inn_found r l h
   ·by_cases h2:l.length = 300
    ·rw [inn_full h1 h2] at h; exact absurd h (show ¬ (1:Nat) = 2 by decide)
    ·by_cases h3:remL (apD p.d z) = []
     ·rw [inn_dull h1 h2 h3] at h ⊢; exact inn_found r _ h
     ·rw [inn_hit h1 h2 h3]; exact ⟨nd1 q p z,by simp,h3⟩
theorem out_ok {d0:Pl.Dg} {k:Nat}:∀ (f i:Nat) (l:List Nd),LOk d0 k l → LOk d0 k (outr k f i l).1 ∧ ((outr k f i l).2 = 2 → ∃ a,(outr k f i l).1.getLast? = some a ∧ remL a.d ≠ [])
 | 0,i,l,h => ⟨h,fun e => absurd e (show ¬ (1:Nat) = 2 by decide)⟩
 | f + 1, i, l, h => by
   cases hi:l[i]? with
   | none => rw [out_end hi]; exact ⟨h,fun e => absurd e (show ¬ (1:Nat) = 2 by decide)⟩
   | some a =>
     by_cases hk:k ≤ a.s
     ·rw [out_far hi hk]; exact out_ok f _ l h
     ·have I:=inn_ok hk (slD a.d) l h hi (fun z hz => hz)
      by_cases h0:(inn i a (slD a.d) l).2 = 0
      ·rw [out_on (l' := (inn i a (slD a.d) l).1) hi hk (by rw [← h0])]; exact out_ok f _ _ I.1
      ·rw [out_done hi hk rfl h0]; exact ⟨I.1,fun e => inn_found _ _ e⟩
def pthR (l:List Nd):Nat → Nat → List Mv
 | 0,_ => []
 | f + 1, j => match l[j]? with
   | none => []
   | some a => if a.fr < 0 then [] else a.m :: pthR l f a.fr.toNat
def pt (l:List Nd) (j:Nat):List Mv := pthR l (j + 1) j
theorem pthR_some {l:List Nd} {f j q:Nat} {a:Nd} (h:l[j]? = some a) (hq:a.fr = (q:Int)):pthR l (f + 1) j = a.m :: pthR l f q := by
 rw [pthR,h]
 show (if a.fr < 0 then _ else _) = _
 rw [if_neg (by omega),hq]
 rfl
theorem pthR_root {l:List Nd} {f j:Nat} {a:Nd} (h:l[j]? = some a) (hq:a.fr < 0):pthR l (f + 1) j = [] := by
 rw [pthR,h]
 exact if_pos hq
theorem pthR_more {d0:Pl.Dg} {k:Nat} {l:List Nd} (h:LOk d0 k l):∀ (n j f g:Nat),j ≤ n → j < l.length → j < f → j < g → pthR l f j = pthR l g j := by
 intro n
 induction n with
 | zero =>
   intro j f g hn hl hf hg
   obtain ⟨f,rfl⟩:∃ x,f = x + 1 := ⟨f - 1,by omega⟩
   obtain ⟨g,rfl⟩:∃ x,g = x + 1 := ⟨g - 1,by omega⟩
   have hj:=List.getElem?_eq_getElem hl
   rcases (h.at_ j _ hj).ty with ⟨_,e⟩ | ⟨p,q,_,h2,_⟩
   ·have:(l[j]).fr < 0:=by rw [e]; exact (by decide:(-1:Int) < 0)
    rw [pthR_root hj this,pthR_root hj this]
   ·omega
 | succ n ih =>
   intro j f g hn hl hf hg
   obtain ⟨f,rfl⟩:∃ x,f = x + 1 := ⟨f - 1,by omega⟩
   obtain ⟨g,rfl⟩:∃ x,g = x + 1 := ⟨g - 1,by omega⟩
   have hj:=List.getElem?_eq_getElem hl
   rcases (h.at_ j _ hj).ty with ⟨_,e⟩ | ⟨p,q,h1,h2,_⟩
   ·have:(l[j]).fr < 0:=by rw [e]; exact (by decide:(-1:Int) < 0)
    rw [pthR_root hj this,pthR_root hj this]
   ·rw [pthR_some hj h1,pthR_some hj h1,ih q f g (by omega) (by omega) (by omega) (by omega)]
theorem pt_some {d0:Pl.Dg} {k:Nat} {l:List Nd} (h:LOk d0 k l) {j q:Nat} {a:Nd} (hj:l[j]? = some a) (hq:a.fr = (q:Int)):pt l j = a.m :: pt l q ∧ q < j := by
 have hl:=(List.getElem?_eq_some_iff.1 hj).1
 have hqj:q < j:=by
  rcases (h.at_ j _ hj).ty with ⟨_,e⟩ | ⟨p,q',h1,h2,_⟩
  ·have:a.fr = -1:=by rw [e]; rfl
   omega
  ·omega
 refine ⟨?_,hqj⟩
 unfold pt
 rw [pthR_some hj hq,pthR_more h q q j (q + 1) (Nat.le_refl _) (by omega) (by omega) (by omega)]
theorem pt_root {l:List Nd} {j:Nat} {a:Nd} (hj:l[j]? = some a) (hq:a.fr < 0):pt l j = [] := pthR_root hj hq
inductive Lds:Pl.Dg → List Mv → Pl.Dg → Prop
 | nil (d:Pl.Dg):Lds d [] d
 | cons {d e:Pl.Dg} {z:Mv} {l:List Mv}:apC d z = 0 → Lds (apD d z) l e → Lds d (z :: l) e
theorem Lds.snoc {d e:Pl.Dg} {l:List Mv} (h:Lds d l e) {z:Mv} (hz:apC e z = 0):Lds d (l ++ [z]) (apD e z) := by
 induction h with
 | nil d => exact .cons hz (.nil _)
 | cons h1 _ ih => exact .cons h1 (ih hz)
theorem Lds.app {d e f:Pl.Dg} {l m:List Mv} (h:Lds d l e) (g:Lds e m f):Lds d (l ++ m) f := by
 induction h with
 | nil d => exact g
 | cons h1 _ ih => exact .cons h1 (ih g)
theorem pt_is {d0:Pl.Dg} {k:Nat} {l:List Nd} (h:LOk d0 k l):∀ (n j:Nat) (a:Nd),j ≤ n → l[j]? = some a → (pt l j).length = a.s ∧ (∀ z,z ∈ pt l j → z.kind = 5) ∧ Lds d0 (pt l j).reverse a.d := by
 intro n
 induction n with
 | zero =>
   intro j a hn hj
   rcases (h.at_ j _ hj).ty with ⟨_,rfl⟩ | ⟨p,q,_,h2,_⟩
   ·rw [pt_root hj (by decide:(-1:Int) < 0)]
    exact ⟨rfl,fun z hz => absurd hz (by simp),.nil _⟩
   ·omega
 | succ n ih =>
   intro j a hn hj
   rcases (h.at_ j _ hj).ty with ⟨_,rfl⟩ | ⟨p,q,h1,h2,h3,h4,h5,h6⟩
   ·rw [pt_root hj (by decide:(-1:Int) < 0)]
    exact ⟨rfl,fun z hz => absurd hz (by simp),.nil _⟩
   ·obtain ⟨e1,e2,e3⟩:=ih q p (by omega) h3
    obtain ⟨_,_,s1,s2⟩:=sl_n (h.at_ q p h3).v h4
    rw [(pt_some h hj h1).1]
    refine ⟨by rw [List.length_cons,e1,h6],fun z hz => ?_,?_⟩
    ·rcases List.mem_cons.1 hz with rfl | hz
     ·exact s1
     ·exact e2 z hz
    ·rw [List.reverse_cons,h5]
     exact e3.snoc s2
noncomputable def srR (k:Nat) (d:Pl.Dg):List Nd × Nat := outr k 301 0 [nd0 d]
noncomputable def srB (k:Nat) (d:Pl.Dg):Bool := (srR k d).2 == 2
noncomputable def srD (k:Nat) (d:Pl.Dg):Pl.Dg := (((srR k d).1.getLast?).getD (nd0 d)).d
noncomputable def srP (k:Nat) (d:Pl.Dg):List Mv := (pt (srR k d).1 ((srR k d).1.length - 1)).reverse
theorem sr_is {k:Nat} {d:Pl.Dg} (hd:Pl.Valid d) (h:srB k d = true):Pl.Valid (srD k d) ∧ (srD k d).n = d.n ∧ remL (srD k d) ≠ [] ∧ (srP k d).length ≤ k ∧ (∀ z,z ∈ srP k d → z.kind = 5) ∧ Lds d (srP k d) (srD k d) := by
 obtain ⟨h1,h2⟩:=out_ok (d0 := d) (k := k) 301 0 [nd0 d] (LOk.start hd k)
 have h3:(outr k 301 0 [nd0 d]).2 = 2:=by
  have:=h
  unfold srB srR at this
  simpa using this
 obtain ⟨a,ha,hr⟩:=h2 h3
 have ha':(srR k d).1[(srR k d).1.length - 1]? = some a:=by rw [← List.getLast?_eq_getElem?]; exact ha
 have P:=h1.at_ _ _ ha'
 have eD:srD k d = a.d:=by
  unfold srD
  rw [show (srR k d).1.getLast? = some a from ha]
  rfl
 obtain ⟨e1,e2,e3⟩:=pt_is h1 _ _ a (Nat.le_refl _) ha'
 rw [eD]
 unfold srP
 refine ⟨P.v,P.n,hr,?_,fun z hz => ?_,e3⟩
 ·rw [List.length_reverse]
  show (pt (outr k 301 0 [nd0 d]).1 ((srR k d).1.length - 1)).length ≤ k
  rw [e1]
  exact P.s
 ·exact e2 z (List.mem_reverse.1 hz)
theorem dn_all {d:Pl.Dg} (hd:Pl.Valid d):Pl.Valid (dnD d) ∧ (dnM d).length + (dnD d).n ≤ d.n ∧ remL (dnD d) = [] ∧ (∀ z,z ∈ dnM d → z.kind = 2 ∨ z.kind = 4) ∧ Lds d (dnM d) (dnD d) := by
 suffices h:∀ n,∀ d:Pl.Dg,Pl.Valid d → d.n ≤ n → Pl.Valid (dnD d) ∧ (dnM d).length + (dnD d).n ≤ d.n ∧ remL (dnD d) = [] ∧ (∀ z,z ∈ dnM d → z.kind = 2 ∨ z.kind = 4) ∧ Lds d (dnM d) (dnD d) from h d.n d hd (Nat.le_refl _)
 intro n
 induction n with
 | zero =>
   intro d hd h0
   have e:=rem_flat (d := d) (by omega)
   rw [(dn_stop e).1,(dn_stop e).2]
   exact ⟨hd,by simp,e,fun z hz => absurd hz (by simp),.nil _⟩
 | succ n ih =>
   intro d hd hn
   cases hr:remL d with
   | nil =>
     rw [(dn_stop hr).1,(dn_stop hr).2]
     exact ⟨hd,by simp,hr,fun z hz => absurd hz (by simp),.nil _⟩
   | cons z l =>
     have hz:z ∈ remL d:=by rw [hr]; exact List.mem_cons_self
     have hl:=rem_less hd hz
     have hv:=(ap_ok hd (rem_ok hz).1).1
     obtain ⟨i1,i2,i3,i4,i5⟩:=ih _ hv (by omega)
     rw [(dn_next hd hr).1,(dn_next hd hr).2]
     refine ⟨i1,by rw [List.length_cons]; omega,i3,fun y hy => ?_,.cons (rem_ok hz).1 i5⟩
     rcases List.mem_cons.1 hy with rfl | hy
     ·exact (rem_ok hz).2
     ·exact i4 y hy
theorem dn_cons {d:Pl.Dg} (hd:Pl.Valid d) (h:remL d ≠ []):dnM d ≠ [] ∧ (dnD d).n < d.n := by
 have e:dnM d ≠ []:=fun e => h ((dnM_nil hd).1 e)
 have l:=(dn_all hd).2.1
 have:0 < (dnM d).length:=List.length_pos_iff.2 e
 exact ⟨e,by omega⟩
noncomputable def rd (k:Nat):Nat → Pl.Dg → Pl.Dg × List Mv
 | 0,d => (d,[])
 | f + 1,d => if srB k d = true then ((rd k f (dnD (srD k d))).1,srP k d ++ (dnM (srD k d) ++ (rd k f (dnD (srD k d))).2)) else (d,[])
theorem rd_stop {k:Nat} {d:Pl.Dg} (h:srB k d = false):∀ f,rd k f d = (d,[])
 | 0 => rfl
 | f + 1 => by rw [rd,h]; rfl
theorem rd_go {k f:Nat} {d:Pl.Dg} (h:srB k d = true):rd k (f + 1) d = ((rd k f (dnD (srD k d))).1,srP k d ++ (dnM (srD k d) ++ (rd k f (dnD (srD k d))).2)) := by rw [rd,h]; rfl
theorem sr_less {k:Nat} {d:Pl.Dg} (hd:Pl.Valid d) (h:srB k d = true):(dnD (srD k d)).n < d.n := by
 obtain ⟨v,n,r,_⟩:=sr_is hd h
 rw [← n]
 exact (dn_cons v r).2
theorem rd_more {k:Nat}:∀ (n:Nat) (d:Pl.Dg),Pl.Valid d → d.n ≤ n → ∀ f g,d.n ≤ f → d.n ≤ g → rd k (f + 1) d = rd k (g + 1) d := by
 intro n
 induction n with
 | zero =>
   intro d hd hn f g _ _
   cases hb:srB k d with
   | false => rw [rd_stop hb,rd_stop hb]
   | true => have := sr_less hd hb; omega
 | succ n ih =>
   intro d hd hn f g hf hg
   cases hb:srB k d with
   | false => rw [rd_stop hb,rd_stop hb]
   | true =>
     have hl:=sr_less hd hb
     obtain ⟨f,rfl⟩:∃ x,f = x + 1 := ⟨f - 1,by omega⟩
     obtain ⟨g,rfl⟩:∃ x,g = x + 1 := ⟨g - 1,by omega⟩
     rw [rd_go hb,rd_go hb,ih _ (dn_all (sr_is hd hb).1).1 (by omega) f g (by omega) (by omega)]
noncomputable def rdD (k:Nat) (d:Pl.Dg):Pl.Dg := (rd k (d.n + 1) d).1
noncomputable def rdMs (k:Nat) (d:Pl.Dg):List Mv := (rd k (d.n + 1) d).2
theorem rd_no {k:Nat} {d:Pl.Dg} (h:srB k d = false):rdD k d = d ∧ rdMs k d = [] := by unfold rdD rdMs; rw [rd_stop h]; exact ⟨rfl,rfl⟩
theorem rd_yes {k:Nat} {d:Pl.Dg} (hd:Pl.Valid d) (h:srB k d = true):rdD k d = rdD k (dnD (srD k d)) ∧ rdMs k d = srP k d ++ (dnM (srD k d) ++ rdMs k (dnD (srD k d))) := by
 have hl:=sr_less hd h
 have e:=rd_more (k := k) _ _ (dn_all (sr_is hd h).1).1 (Nat.le_refl _) (d.n - 1) (dnD (srD k d)).n (by omega) (Nat.le_refl _)
 unfold rdD rdMs
 rw [rd_go h,← e,show d.n - 1 + 1 = d.n by omega]
 exact ⟨rfl,rfl⟩
noncomputable def redD (k:Nat) (d:Pl.Dg):Pl.Dg := rdD k (dnD d)
noncomputable def redM (k:Nat) (d:Pl.Dg):List Mv := dnM d ++ rdMs k (dnD d)
end Go.Proofs.YtghdiolnonejaaaGreatDoor
end
section
namespace Go.Proofs.YtghdiolnonejaaaGreatDoor
open Go Go.RowKit
attribute [local go_sem ↓] Go.wp_at_zero Go.wp_at_succ
theorem rem_kinds {d:Pl.Dg} {k x y s:Int} {o:Bool} (h:(⟨k,x,y,s,o⟩:Mv) ∈ remL d):apC d ⟨k,x,y,s,o⟩ = 0 ∧ inR d.n ⟨k,x,y,s,o⟩ ∧ 0 ≤ x ∧ 0 ≤ y ∧ (k = 2 ∨ k = 4) := by
 obtain ⟨h1,h2⟩:=rem_ok h
 have hin:=(apC_zero h1).2.1
 refine ⟨h1,hin,?_,?_,h2⟩
 ·rcases h2 with h2 | h2
  ·have hk:k = 2:=h2
   subst hk
   have h3:0 ≤ x ∧ x < d.n ∧ y = 0 ∧ s = 0 ∧ o = false:=hin
   exact h3.1
  ·have hk:k = 4:=h2
   subst hk
   have h3:0 ≤ x ∧ x < y ∧ y < d.n ∧ s = 0 ∧ o = false:=hin
   exact h3.1
 ·rcases h2 with h2 | h2
  ·have hk:k = 2:=h2
   subst hk
   have h3:0 ≤ x ∧ x < d.n ∧ y = 0 ∧ s = 0 ∧ o = false:=hin
   omega
  ·have hk:k = 4:=h2
   subst hk
   have h3:0 ≤ x ∧ x < y ∧ y < d.n ∧ s = 0 ∧ o = false:=hin
   omega
theorem apply_rem (r:Pl.Dg) (hr:Pl.Valid r) (A B:Option Addr) (n cp cq m lp:Nat) (k x y s:Int) (o:Bool) (w:World) (hn:n = r.n) (hm:m = 4 * r.n) (hl:lp = r.lp) (hg:DgAt w A B r) (h:(⟨k,x,y,s,o⟩:Mv) ∈ remL r) :
 Calls Tryz.prog 26 #[.agg #[.slice A n cp,.slice B m cq,.int .i64 (lp:Int)],.agg #[.int .i64 k,.int .i64 x,.int .i64 y,.int .i64 s,.bool o]] w (ResC (apC r ⟨k,x,y,s,o⟩) (apD r ⟨k,x,y,s,o⟩) (apI r ⟨k,x,y,s,o⟩) w) := by
 subst hn
 subst hl
 obtain ⟨h1,hin,hx,hy,hk⟩:=rem_kinds h
 obtain ⟨a,rfl⟩:=Int.eq_ofNat_of_zero_le hx
 obtain ⟨b,rfl⟩:=Int.eq_ofNat_of_zero_le hy
 rcases hk with rfl | rfl
 ·have e:apC r ⟨2,(a:Int),(b:Int),s,o⟩ = uncC r a:=by rw [apC_in (show (1:Int) ≤ 2 ∧ (2:Int) ≤ 5 by decide) hin]; rfl
  rw [e]
  exact apply_2 r hr A B cp cq m a b s o w hm hg hin
 ·have e:apC r ⟨4,(a:Int),(b:Int),s,o⟩ = unpC r a b:=by rw [apC_in (show (1:Int) ≤ 4 ∧ (4:Int) ≤ 5 by decide) hin]; rfl
  rw [e]
  exact apply_4 r hr A B cp cq m a b s o w hm hg hin
theorem Removing_n (r:Pl.Dg) (hr:Pl.Valid r) (A B:Option Addr) (n cp cq m lp:Nat) (w:World) (hn:n = r.n) (hm:m = 4 * r.n) (hl:lp = r.lp) (hg:DgAt w A B r) :
 Calls Tryz.prog 29 #[.agg #[.slice A n cp,.slice B m cq,.int .i64 (lp:Int)]] w fun e w' => ∃ v,e = .returned v ∧ MovesIn w.heap.size w' v (remL r) ∧ Below w.heap.size w w' := by
 subst hn
 subst hl
 exact Removing_any r hr A B cp cq m w hm hg
end Go.Proofs.YtghdiolnonejaaaGreatDoor
end
section
namespace Go.Proofs.YtghdiolnonejaaaGreatDoor
open Go Go.RowKit
attribute [local go_sem ↓] Go.wp_at_zero Go.wp_at_succ
theorem nodeInfo:(Tryz.prog.info? 75).map (fun i => (i.zero,i.size,i.bytes)) = some (some (.agg #[.slice none 0 0,.slice none 0 0,.int .i64 0,.int .i64 0,.int .i64 0,.int .i64 0,.int .i64 0,.bool false,.int .i64 0,.int .i64 0]),10,112) := by kernel_rfl
def MapIs (W:World) (b:Nat) (ks:List (List UInt8)):Prop :=
 ∃ (n:Nat) (D:DataW Unit),W.ownsMap Tryz.prog 9 (plainElem Tryz.prog 4) b n D ∧ n ≤ ks.length ∧ ∀ s:List UInt8,D.atKey (.string s) (.lit (.bool false)) = .lit (.bool (Pl.vb (s ∈ ks)))
theorem skKey:Maps.Keyed Tryz.prog 9 := Maps.string_keyed Tryz.underlying9
theorem MapIs.lt {W:World} {b:Nat} {ks:List (List UInt8)} (h:MapIs W b ks):b < W.heap.size := let ⟨_,_,h,_⟩:=h; h.lt
theorem MapIs.obj {W:World} {b:Nat} {ks:List (List UInt8)} (h:MapIs W b ks):∃ es cl,W.heap[b]? = some (.map es cl) := let ⟨_,_,⟨es,cl,h,_⟩,_⟩:=h; ⟨es,cl,h⟩
theorem MapIs.same {W W':World} {b:Nat} {ks:List (List UInt8)} (h:MapIs W b ks) (e:W'.heap[b]? = W.heap[b]?):MapIs W' b ks := by
 obtain ⟨n,D,⟨es,cl,hb,r⟩,h2,h3⟩:=h
 exact ⟨n,D,⟨es,cl,e.trans hb,r⟩,h2,h3⟩
theorem plainElem_bool_inv {P:Program} {e:TypeId} (he:P.underlying e = some .bool) {v:Value} {z:DataW Unit × List MemPlace} (h:plainElem P e v = some z):∃ x,v = .bool x ∧ z = (.lit (.bool x),[]) := by
 unfold plainElem at h
 rw [he] at h
 cases v <;> simp at h
 exact ⟨_,rfl,h.symm⟩
theorem MapIs.new (W:World):MapIs (W.alloc (.map #[] 0)) W.heap.size [] :=
 ⟨0, .map [], World.ownsMap_made W _ _ _, Nat.le_refl _, fun s => by
   rw [WideAt.atKey_none _ (fun p hp => absurd hp (by simp)),Pl.vb_false (by simp)]⟩
set_option maxRecDepth 100000 in
theorem MapIs.look {W:World} {b:Nat} {ks:List (List UInt8)} (h:MapIs W b ks) (s:ByteArray) (hs:s.size ≤ maxLen) :
 (Instr.lookup 77 (.map (some b)) (.string s) false).run Tryz.prog W = .ok (.bool (Pl.vb (s.data.toList ∈ ks))) W := by
 obtain ⟨n,D,h1,h2,h3⟩:=h
 obtain ⟨v,ps,hrun,hv⟩:=h1.lookup skKey Tryz.underlying77 (Tryz.zeroValue4 W) (plainElem_bool Tryz.underlying4 false) (WideMaps.keyOf_string_mk Tryz.underlying9 hs)
 rw [h3] at hv
 rw [hrun]
 obtain ⟨x,hx⟩:∃ x,x = Pl.vb (s.data.toList ∈ ks) := ⟨_,rfl⟩
 rw [← hx] at hv ⊢
 obtain ⟨y,rfl,hy⟩:=plainElem_bool_inv Tryz.underlying4 hv
 injection hy with hy
 injection hy with hy
 injection hy with hy
 rw [hy]
theorem MapIs.put {n b:Nat} {D:DataW Unit} {W W':World} {ks:List (List UInt8)} (h0:W.ownsMap Tryz.prog 9 (plainElem Tryz.prog 4) b n D) (hn:n ≤ ks.length) (h3:∀ s:List UInt8,D.atKey (.string s) (.lit (.bool false)) = .lit (.bool (Pl.vb (s ∈ ks)))) (s:List UInt8)
 (h:W'.ownsMap Tryz.prog 9 (plainElem Tryz.prog 4) b (n + 1) (D.put (.string s) (.lit (.bool true)))):MapIs W' b (ks ++ [s]) := by
 refine ⟨n + 1,_,h,by rw [List.length_append,List.length_singleton]; omega,fun t => ?_⟩
 by_cases e:t = s
 ·subst e
  rw [Maps.atKey_put_same h0.isMap (by trivial),Pl.vb_true (by simp)]
 ·rw [Maps.atKey_put_other (fun e2 => e (by injection e2)),h3]
  congr 3
  exact propext ⟨fun h => by simp [h],fun h => by simpa [e] using h⟩
def KpT (t:TypeId) (W W':World):Prop := ∀ (g:Nat) (cs:Array Value) (fr:Nat × Nat),W.heap[g]? = some (Obj.cells cs t fr) → W'.heap[g]? = some (Obj.cells cs t fr)
theorem KpT.of_below {t:TypeId} {W W':World} (h:Below W.heap.size W W'):KpT t W W' := fun g cs fr hg => (h.block g (lt_of_heap hg)).trans hg
theorem KpT.of_grown {t t':TypeId} {W W':World} {row:Option Nat} (h:W.grownBy W' row) (hr:∀ g,row = some g → ∃ cs fr,W.heap[g]? = some (.cells cs t' fr)) (hne:t ≠ t'):KpT t W W' := fun g cs fr hg => (h.block g (lt_of_heap hg) (fun e => by
 obtain ⟨cs',fr',h2⟩:=hr g e.symm
 rw [hg] at h2
 injection h2 with h2
 injection h2 with _ h2
 exact hne h2)).trans hg
theorem KpT.of_map {t:TypeId} {W W':World} {b:Nat} (h:W.grownBy W' (some b)) (hr:∃ es cl,W.heap[b]? = some (.map es cl)):KpT t W W' := fun g cs fr hg => (h.block g (lt_of_heap hg) (fun e => by
 injection e with e
 obtain ⟨es,cl,h2⟩:=hr
 rw [← e,hg] at h2
 injection h2 with h2
 cases h2)).trans hg
theorem Row.kp {t:TypeId} {W W':World} {g:Nat} {vs:List Value} (h:Row W g t vs) (k:KpT t W W'):Row W' g t vs := k g _ _ h
theorem RowT.kp {t:TypeId} {W W':World} {A:Option Addr} {n:Nat} {xs:List Value} (h:RowT W t A n xs) (k:KpT t W W'):RowT W' t A n xs :=
 ⟨h.1,fun hn => let ⟨b,o,cs,fr,e,hb,hc⟩:=h.2 hn; ⟨b,o,cs,fr,e,k b cs fr hb,hc⟩⟩
theorem DgT.kp {W W':World} {A B:Option Addr} {d:Pl.Dg} (h:DgT W A B d) (k:KpT 3 W W'):DgT W' A B d := ⟨h.s.kp k,h.m.kp k⟩
theorem own_kp {t:TypeId} {W W':World} {base s n:Nat} {v:Value} {xs:List Value} (h:W.ownsRow base t s v n xs) (k:KpT t W W'):W'.ownsRow base t s v n xs := by
 refine ⟨h.1,?_⟩
 rcases h.2 with hz | ⟨g,cap,cur,r1,r2,r3,r4⟩
 ·exact .inl hz
 ·exact .inr ⟨g,cap,cur,r1,r2,k g _ _ r3,r4⟩
structure Nm where
 a:Nd
 A:Option Addr
 B:Option Addr
 c:Nat
 e:Nat
def Nm.v (z:Nm):List Value := [.slice z.A z.a.d.n z.c,.slice z.B (4 * z.a.d.n) z.e,.int .i64 z.a.d.lp,.int .i64 z.a.m.kind,.int .i64 z.a.m.x,.int .i64 z.a.m.y,.int .i64 z.a.m.sign,.bool z.a.m.over,.int .i64 z.a.fr,.int .i64 z.a.s]
def nms (zs:List Nm):List Value := zs.flatMap Nm.v
theorem nms_len:∀ zs:List Nm,(nms zs).length = zs.length * 10
 | [] => rfl
 | z :: zs => by
   have:=nms_len zs
   show (z.v ++ nms zs).length = _
   rw [List.length_append,this,List.length_cons]
   show 10 + _ = _
   omega
theorem nms_app (zs:List Nm) (z:Nm):nms (zs ++ [z]) = nms zs ++ z.v := by unfold nms; simp
theorem nms_get:∀ (zs:List Nm) (j:Nat) (z:Nm),zs[j]? = some z → ∀ (i:Nat) (u:Value),z.v[i]? = some u → (nms zs)[j * 10 + i]? = some u
 | [],j,z,h,_,_,_ => by cases h
 | m :: ms, 0, z, h, i, u, hu => by
   obtain rfl:m = z := by simpa using h
   show (m.v ++ nms ms)[0 * 10 + i]? = _
   rw [Nat.zero_mul,Nat.zero_add,List.getElem?_append_left (List.getElem?_eq_some_iff.1 hu).1]
   exact hu
 | m :: ms, j + 1, z, h, i, u, hu => by
   show (m.v ++ nms ms)[(j + 1) * 10 + i]? = _
   rw [List.getElem?_append_right (by show 10 ≤ _; omega),show (j + 1) * 10 + i - m.v.length = j * 10 + i by show (j + 1) * 10 + i - 10 = _; omega]
   exact nms_get ms j z (by simpa using h) i u hu
theorem nm_ones (z:Nm):∀ u ∈ z.v,u.oneCell' = true := by simp [Nm.v,Value.oneCell']
theorem row_news (W:World) (g:Nat) (hg:g = W.heap.size) (t:TypeId) (vs:List Value):∀ j u,vs[j]? = some u → (W.alloc (.cells vs.toArray t)).cell? ((⟨g,0,none⟩:Addr).add j) = some u := by
 intro j u hu
 rw [Addr.add_lit,Nat.zero_add,cell_of_row _ _ j _ _ _ (row_at (W := W) (g := g) (t := t) (vs := vs) hg)]
 simpa using hu
def NdT (W:World) (A0 B0:Option Addr) (d0:Pl.Dg) (z:Nm):Prop := DgT W z.A z.B z.a.d ∨ (z.A = A0 ∧ z.B = B0 ∧ z.a.d = d0)
theorem NdT.kp {W W':World} {A0 B0:Option Addr} {d0:Pl.Dg} {z:Nm} (h:NdT W A0 B0 d0 z) (k:KpT 3 W W'):NdT W' A0 B0 d0 z := h.imp (fun h => h.kp k) id
theorem NdT.dg {w W:World} {A0 B0:Option Addr} {d0:Pl.Dg} {z:Nm} (h:NdT W A0 B0 d0 z) (hg:DgAt w A0 B0 d0) (hb:Below w.heap.size w W):DgAt W z.A z.B z.a.d := by
 rcases h with h | ⟨h1,h2,h3⟩
 ·exact h.at
 ·rw [h1,h2,h3]; exact hg.keep hb
structure SrL (w:World) (A0 B0:Option Addr) (d0:Pl.Dg) (k:Nat) (dv:List Value) (gm:Nat) (v:Value) (zs:List Nm) (W:World):Prop where
 bx:Row W w.heap.size 24 dv
 rs:Row W (w.heap.size + 1) 24 [.slice none 0 0,.slice none 0 0,.int .i64 0]
 own:W.ownsRow (w.heap.size + 1 + 1) 75 10 v zs.length (nms zs)
 nt:∀ z,z ∈ zs → NdT W A0 B0 d0 z
 ok:LOk d0 k (zs.map Nm.a)
 mp:MapIs W gm (keysL (zs.map Nm.a))
 gml:w.heap.size + 1 < gm
 bel:Below w.heap.size w W
section
variable {w W W':World} {A0 B0:Option Addr} {d0:Pl.Dg} {k gm:Nat} {dv:List Value} {v:Value} {zs:List Nm}
theorem SrL.big (h:SrL w A0 B0 d0 k dv gm v zs W):w.heap.size + 1 + 1 ≤ W.heap.size := by have := h.rs.lt; omega
theorem SrL.below (h:SrL w A0 B0 d0 k dv gm v zs W) (hb:Below W.heap.size W W'):SrL w A0 B0 d0 k dv gm v zs W' :=
 ⟨h.bx.below hb,h.rs.below hb,own_below h.own hb,fun z hz => (h.nt z hz).kp (.of_below hb),h.ok,h.mp.same (hb.block gm h.mp.lt),h.gml,h.bel.trans (hb.mono h.bel.size)⟩
theorem SrL.cell {g n c j t:Nat} {z:Nm} {u:Value} (h:SrL w A0 B0 d0 k dv gm (.slice (some ⟨g,0,none⟩) n c) zs W) (hn:n = zs.length) (hz:zs[j]? = some z) (ht:t < 10) (e:z.v[t]? = some u):W.cell? ⟨g,j * 10 + t,none⟩ = some u := by
 subst hn
 have hj:=(List.getElem?_eq_some_iff.1 hz).1
 rw [World.ownsRow.cellAt h.own _ (by omega),nms_get zs j z hz t u e]
theorem SrL.app {z:Nm} {W2:World} {g c n:Nat} (h:SrL w A0 B0 d0 k dv gm v zs W) (hm:MapIs W' gm (keysL (zs.map Nm.a) ++ [keyD z.a.d])) (hg:W.grownBy W' (some gm)) (hok:LOk d0 k (zs.map Nm.a ++ [z.a])) :
 W'.ownsRow (w.heap.size + 1 + 1) 75 10 v zs.length (nms zs) ∧ (∀ t,KpT t W W') ∧ Below w.heap.size w W' ∧ w.heap.size + 1 + 1 ≤ W'.heap.size ∧
 (∀ (V : World), Below W'.heap.size W' V → V.ownsRow (w.heap.size + 1 + 1) 75 10 v zs.length (nms zs) → DgT V z.A z.B z.a.d → W2.ownsRow (w.heap.size + 1 + 1) 75 10 (.slice (some ⟨g, 0, none⟩) n c) n (nms zs ++ z.v) → V.grownBy W2 v.ownBlock → n = zs.length + 1 →
   SrL w A0 B0 d0 k dv gm (.slice (some ⟨g,0,none⟩) n c) (zs ++ [z]) W2 ∧ ∀ t,t ≠ 75 → KpT t V W2) := by
 have k1:∀ t,KpT t W W':=fun t => .of_map hg h.mp.obj
 have b1:Below w.heap.size w W':=h.bel.grown hg h.bel.size (fun k hk => by
  injection hk with hk
  have:=h.gml
  omega)
 have s1:W.heap.size ≤ W'.heap.size:=hg.size
 have hbig:=h.big
 refine ⟨own_kp h.own (k1 _),k1,b1,by omega,fun V hV own T own2 gr hn => ?_⟩
 have hbk:=fun g (hg:v.ownBlock = some g) => ownsRow_block own g hg
 have k2:∀ t,t ≠ 75 → KpT t V W2:=fun t ht => .of_grown gr hbk ht
 have k3:∀ t,t ≠ 75 → KpT t W W2:=fun t ht g cs fr hg => k2 t ht g cs fr (KpT.of_below hV g cs fr (k1 t g cs fr hg))
 have hl:(zs ++ [z]).length = zs.length + 1:=by rw [List.length_append]; rfl
 have hgmb:V.heap[gm]? = W'.heap[gm]?:=hV.block gm hm.lt
 refine ⟨⟨h.bx.kp (k3 _ (by decide)),h.rs.kp (k3 _ (by decide)),?_,fun y hy => ?_,?_,?_,h.gml,?_⟩,k2⟩
 ·rw [nms_app,hl,← hn]; exact own2
 ·rcases List.mem_append.1 hy with hy | hy
  ·exact (h.nt y hy).kp (k3 _ (by decide))
  ·rw [List.mem_singleton.1 hy]
   exact .inl (T.kp (k2 _ (by decide)))
 ·rw [List.map_append]; exact hok
 ·have e:keysL ((zs ++ [z]).map Nm.a) = keysL (zs.map Nm.a) ++ [keyD z.a.d]:=by unfold keysL; simp
  rw [e]
  refine hm.same ?_
  rw [gr.block gm (by have := hm.lt; have := hV.size; omega) (fun e => by
   obtain ⟨cs,fr,h2⟩:=hbk gm e.symm
   obtain ⟨es,cl,h3⟩:=hm.obj
   rw [hgmb,h3] at h2
   injection h2 with h2
   cases h2)]
  exact hgmb
 ·refine (b1.trans (hV.mono b1.size)).grown gr ?_ (fun k hk => by have := (own.lt k hk).1; omega)
  have:=hV.size
  have:=b1.size
  omega
end
end Go.Proofs.YtghdiolnonejaaaGreatDoor
end
section
namespace Go.Proofs.YtghdiolnonejaaaGreatDoor
open Go Go.RowKit
def runOk (k:Nat):Nat → List Mv → Prop
 | r,[] => r = 0
 | r,z :: l => (z.kind = 5 ∧ r + 1 ≤ k ∧ runOk k (r + 1) l) ∨ ((z.kind = 2 ∨ z.kind = 4) ∧ runOk k 0 l)
theorem run_slides {k:Nat}:∀ (p:List Mv) (r:Nat) (l:List Mv),(∀ z,z ∈ p → z.kind = 5) → r + p.length ≤ k → runOk k (r + p.length) l → runOk k r (p ++ l)
 | [],r,l,_,_,h => h
 | z :: p,r,l,hz,hl,h => .inl ⟨hz z (by simp),by rw [List.length_cons] at hl; omega,run_slides p (r + 1) l (fun y hy => hz y (by simp [hy])) (by rw [List.length_cons] at hl; omega) (by rw [show r + 1 + p.length = r + (z :: p).length by rw [List.length_cons]; omega]; exact h)⟩
theorem run_down {k:Nat}:∀ (q:List Mv) (r:Nat) (l:List Mv),q ≠ [] → (∀ z,z ∈ q → z.kind = 2 ∨ z.kind = 4) → runOk k 0 l → runOk k r (q ++ l)
 | [],_,_,h,_,_ => absurd rfl h
 | [z],r,l,_,hz,h => .inr ⟨hz z (by simp),h⟩
 | z :: y :: q,r,l,_,hz,h => .inr ⟨hz z (by simp),run_down (y :: q) 0 l (by simp) (fun x hx => hz x (by simp at hx ⊢; exact .inr hx)) h⟩
theorem rd_run {k:Nat}:∀ (n:Nat) (d:Pl.Dg),Pl.Valid d → d.n ≤ n → runOk k 0 (rdMs k d) := by
 intro n
 induction n with
 | zero =>
   intro d hd hn
   cases hb:srB k d with
   | false => rw [(rd_no hb).2]; rfl
   | true => have := sr_less hd hb; omega
 | succ n ih =>
   intro d hd hn
   cases hb:srB k d with
   | false => rw [(rd_no hb).2]; rfl
   | true =>
     obtain ⟨v,_,r,pl,pk,_⟩:=sr_is hd hb
     have hl:=sr_less hd hb
     rw [(rd_yes hd hb).2]
     exact run_slides _ 0 _ pk (by omega) (run_down _ _ _ (dn_cons v r).1 (dn_all v).2.2.2.1 (ih _ (dn_all v).1 (by omega)))
theorem red_run {d:Pl.Dg} (hd:Pl.Valid d) (k:Nat):runOk k 0 (redM k d) := by
 have h:=rd_run (k := k) _ (dnD d) (dn_all hd).1 (Nat.le_refl _)
 unfold redM
 by_cases e:dnM d = []
 ·rw [e]; exact h
 ·exact run_down _ _ _ e (dn_all hd).2.2.2.1 h
theorem rd_len {k:Nat} (hk:k ≤ 8):∀ (n:Nat) (d:Pl.Dg),Pl.Valid d → d.n ≤ n → (rdMs k d).length ≤ 9 * d.n := by
 intro n
 induction n with
 | zero =>
   intro d hd hn
   cases hb:srB k d with
   | false => rw [(rd_no hb).2]; simp
   | true => have := sr_less hd hb; omega
 | succ n ih =>
   intro d hd hn
   cases hb:srB k d with
   | false => rw [(rd_no hb).2]; simp
   | true =>
     obtain ⟨v,e,r,pl,pk,_⟩:=sr_is hd hb
     have hl:=sr_less hd hb
     have h1:=ih _ (dn_all v).1 (by omega)
     have h2:=(dn_all v).2.1
     rw [(rd_yes hd hb).2,List.length_append,List.length_append]
     omega
theorem red_len {d:Pl.Dg} (hd:Pl.Valid d) {k:Nat} (hk:k ≤ 8):(redM k d).length ≤ 9 * d.n := by
 have h1:=rd_len hk _ (dnD d) (dn_all hd).1 (Nat.le_refl _)
 have h2:=(dn_all hd).2.1
 unfold redM
 rw [List.length_append]
 omega
theorem rd_end {k:Nat}:∀ (n:Nat) (d:Pl.Dg),Pl.Valid d → d.n ≤ n → remL d = [] → Pl.Valid (rdD k d) ∧ remL (rdD k d) = [] ∧ srB k (rdD k d) = false ∧ (rdD k d).n ≤ d.n ∧ Lds d (rdMs k d) (rdD k d) := by
 intro n
 induction n with
 | zero =>
   intro d hd hn hr
   cases hb:srB k d with
   | false => rw [(rd_no hb).1,(rd_no hb).2]; exact ⟨hd,hr,hb,Nat.le_refl _,.nil _⟩
   | true => have := sr_less hd hb; omega
 | succ n ih =>
   intro d hd hn hr
   cases hb:srB k d with
   | false => rw [(rd_no hb).1,(rd_no hb).2]; exact ⟨hd,hr,hb,Nat.le_refl _,.nil _⟩
   | true =>
     obtain ⟨v,_,r,pl,pk,hL⟩:=sr_is hd hb
     have hl:=sr_less hd hb
     obtain ⟨u1,u2,u3,u4,u5⟩:=dn_all v
     obtain ⟨i1,i2,i3,i4,i5⟩:=ih _ u1 (by omega) u3
     rw [(rd_yes hd hb).1,(rd_yes hd hb).2]
     exact ⟨i1,i2,i3,by omega,hL.app (u5.app i5)⟩
theorem red_end {d:Pl.Dg} (hd:Pl.Valid d) (k:Nat):Pl.Valid (redD k d) ∧ remL (redD k d) = [] ∧ srB k (redD k d) = false ∧ (redD k d).n ≤ (dnD d).n ∧ Lds d (redM k d) (redD k d) := by
 obtain ⟨u1,u2,u3,u4,u5⟩:=dn_all hd
 obtain ⟨i1,i2,i3,i4,i5⟩:=rd_end (k := k) _ _ u1 (Nat.le_refl _) u3
 exact ⟨i1,i2,i3,i4,u5.app i5⟩
theorem red_again {d:Pl.Dg} (hd:Pl.Valid d) (k:Nat):redD k (redD k d) = redD k d ∧ redM k (redD k d) = [] := by
 obtain ⟨_,h2,h3,_,_⟩:=red_end hd k
 unfold redD redM at *
 rw [(dn_stop h2).1,(dn_stop h2).2,(rd_no h3).1,(rd_no h3).2]
 exact ⟨rfl,rfl⟩
end Go.Proofs.YtghdiolnonejaaaGreatDoor
end
section
namespace Go.Proofs.YtghdiolnonejaaaGreatDoor
open Go Go.RowKit
attribute [local go_sem ↓] Go.wp_at_zero Go.wp_at_succ
structure AR (w:World) (dv:List Value) (b:Nat) (v:Value) (ms:List Mv) (R:Option Addr) (nr:Nat) (rs:List Mv) (W:World):Prop where
 al:AL w dv b v ms W
 rv:MovesV W R nr rs
 ne:∀ g,0 < nr → R = some ⟨g,0,none⟩ → some g ≠ v.ownBlock
section
variable {w W W':World} {dv:List Value} {b nr:Nat} {v v':Value} {ms ms' rs:List Mv} {R:Option Addr}
end
end Go.Proofs.YtghdiolnonejaaaGreatDoor
end
section
namespace Go.Proofs.YtghdiolnonejaaaGreatDoor
open Go Go.RowKit
theorem shf1_lt {n c g:Nat} (hc:c < n) (hg:g < 4 * n) (hne:g / 4 ≠ c):Pl.shf [c] g < 4 * (n - 1) := by
 rw [Pl.shf_one]
 split <;> omega
theorem shf2_lt {n x y g:Nat} (hxy:x < y) (hy:y < n) (hg:g < 4 * n) (h1:g / 4 ≠ x) (h2:g / 4 ≠ y):Pl.shf [x,y] g < 4 * (n - 2) := by
 unfold Pl.shf
 by_cases a:x < g / 4 <;> by_cases b:y < g / 4 <;> simp [List.filter_cons,a,b] <;> omega
theorem four_of {g h:Nat} (e:g / 4 = h / 4):g = h ∨ g = Pl.tn h 1 ∨ g = Pl.tn h 2 ∨ g = Pl.tn h 3 := by unfold Pl.tn; omega
theorem lens_out {d:Pl.Dg} (hd:Pl.Valid d) {h u:Nat} (L:Pl.Lens d h u) {x y:Nat} (hxy:x < y) (hy:y < d.n) (hp:(x = h / 4 ∧ y = u / 4) ∨ (x = u / 4 ∧ y = h / 4)) {g:Nat} (hg:g < 4 * d.n)
 (n1:d.m g ≠ Pl.tn h 2) (n2:d.m g ≠ Pl.tn h 3) (n3:d.m g ≠ Pl.tn u 1) (n4:d.m g ≠ Pl.tn u 2) (g0:g ≠ h) (g1:g ≠ Pl.tn h 1) (g2:g ≠ u) (g3:g ≠ Pl.tn u 3):Pl.shf [x,y] (d.m g) < 4 * (d.n - 2) := by
 have hw:=hd.wf
 have hu:=L.hu hw
 have hgm:=hw.lt g hg
 have i0:d.m g ≠ h:=fun e => g2 (by rw [← L.m0,← e,hw.inv g hg])
 have i1:d.m g ≠ u:=fun e => g0 (by rw [← L.m2 hw,← e,hw.inv g hg])
 have i2:d.m g ≠ Pl.tn h 1:=fun e => g3 (by rw [← L.m1,← e,hw.inv g hg])
 have i3:d.m g ≠ Pl.tn u 3:=fun e => g1 (by rw [← L.m3 hw,← e,hw.inv g hg])
 have q1:d.m g / 4 ≠ h / 4:=fun e => by
  rcases four_of e with q | q | q | q
  ·exact i0 q
  ·exact i2 q
  ·exact n1 q
  ·exact n2 q
 have q2:d.m g / 4 ≠ u / 4:=fun e => by
  rcases four_of e with q | q | q | q
  ·exact i1 q
  ·exact n3 q
  ·exact n4 q
  ·exact i3 q
 rcases hp with ⟨rfl,rfl⟩ | ⟨rfl,rfl⟩
 ·exact shf2_lt hxy hy hgm q1 q2
 ·exact shf2_lt hxy hy hgm q2 q1
theorem lpv_lt (d:Pl.Dg) (h:Nat):-2 ≤ lpv d h ∧ lpv d h ≤ -1 := by unfold lpv; split <;> omega
theorem apI_in {d:Pl.Dg} (hd:Pl.Valid d) {z:Mv} (h:apC d z = 0):TrIn (apD d z).n (apI d z) := by
 have hn:=ap_n hd h
 have hw:=hd.wf
 have hfew:=hw.few
 obtain ⟨hk,hin,hc⟩:=apC_zero h
 obtain ⟨k,x,y,s,o⟩:=z
 simp only at hk hc
 by_cases k1:k = 1
 ·subst k1
  have e:apI d ⟨1,x,y,s,o⟩ = ⟨2,d.n,0,0,false⟩:=by simp [apI]
  rw [e]
  unfold gro at hn
  simp only [if_pos] at hn
  refine ⟨fun _ => ⟨by show (0:Int) ≤ (d.n:Int); omega,by show (d.n:Int) < _; omega⟩,fun q => by simp at q,fun q => by simp at q,fun q => absurd rfl q⟩
 by_cases k2:k = 2
 ·subst k2
  have e:apI d ⟨2,x,y,s,o⟩ = unI d x.toNat:=by simp [apI]
  rw [e]
  have hn':((apD d ⟨2,x,y,s,o⟩).n:Int) = d.n - 1:=by rw [hn]; simp [gro]; omega
  obtain ⟨hx0,hx1,_⟩:0 ≤ x ∧ x < d.n ∧ True := by
   unfold inR at hin
   simp at hin
   exact ⟨hin.1,hin.2.1,trivial⟩
  obtain ⟨c,hcx⟩:∃ c,c = x.toNat := ⟨_,rfl⟩
  have hcn:c < d.n:=by omega
  rw [← hcx] at hc ⊢
  simp at hc
  refine ⟨fun q => by unfold unI at q; simp at q,fun q => by unfold unI at q; simp at q,fun q => by unfold unI at q; simp at q,fun _ _ _ => ?_⟩
  show -9223372036854775808 ≤ (if d.m (kA d c) = kB d c then (-1:Int) else (Pl.shf [c] (d.m (kA d c)):Nat)) ∧ (if d.m (kA d c) = kB d c then (-1:Int) else (Pl.shf [c] (d.m (kA d c)):Nat)) < 4 * ((apD d ⟨2,x,y,s,o⟩).n:Int)
  by_cases hl:d.m (kA d c) = kB d c
  ·rw [if_pos hl]
   constructor <;> omega
  ·rw [if_neg hl]
   have hkk:=kk_lt hcn
   have hA:=kA_lt hcn
   have hck:d.m (kk d c) / 4 = c:=by
    unfold uncC at hc
    by_cases q:d.m (kk d c) / 4 = c
    ·exact q
    ·rw [if_neg q] at hc; simp at hc
   have hkc:kk d c / 4 = c:=by unfold kk; split <;> (try split) <;> omega
   have no:=Pl.no_opp hd hkk
   have nA:d.m (kA d c) ≠ kA d c:=hw.ne _ hA
   have n1:d.m (kA d c) ≠ kk d c:=fun q => by
    have:d.m (kk d c) = kA d c:=by rw [← q,hw.inv _ hA]
    exact no this
   have n2:d.m (kA d c) ≠ d.m (kk d c):=fun q => by
    have:=hw.bij.inj _ _ hA hkk q
    unfold kA Pl.tn at this
    omega
   have nk:=hw.ne _ hkk
   have q:d.m (kA d c) / 4 ≠ c:=fun q => by
    rcases four_of (show d.m (kk d c) / 4 = kk d c / 4 by omega) with m | m | m | m
    ·exact nk m
    ·have hB:kB d c = Pl.tn (kk d c) 3:=by unfold kB; rw [m,Pl.tn_tn]
     rcases four_of (show d.m (kA d c) / 4 = kk d c / 4 by omega) with v | v | v | v
     ·exact n1 v
     ·exact n2 (v.trans m.symm)
     ·exact nA v
     ·exact hl (v.trans hB.symm)
    ·exact no m
    ·have hB:kB d c = Pl.tn (kk d c) 1:=by unfold kB; rw [m,Pl.tn_tn]; unfold Pl.tn; omega
     rcases four_of (show d.m (kA d c) / 4 = kk d c / 4 by omega) with v | v | v | v
     ·exact n1 v
     ·exact hl (v.trans hB.symm)
     ·exact nA v
     ·exact n2 (v.trans m.symm)
   have:=shf1_lt hcn (hw.lt _ hA) q
   constructor <;> omega
 by_cases k3:k = 3
 ·subst k3
  have e:apI d ⟨3,x,y,s,o⟩ = ⟨4,d.n,d.n + 1,0,false⟩:=by simp [apI]
  rw [e]
  have hn':((apD d ⟨3,x,y,s,o⟩).n:Int) = d.n + 2:=by rw [hn]; simp [gro]
  refine ⟨fun q => by simp at q,fun _ => ⟨by show (0:Int) ≤ (d.n:Int); omega,by show (d.n:Int) < _; omega,by show (0:Int) ≤ (d.n:Int) + 1; omega,by show (d.n:Int) + 1 < _; omega⟩,fun q => by simp at q,fun _ q => absurd rfl q⟩
 by_cases k4:k = 4
 ·subst k4
  have e:apI d ⟨4,x,y,s,o⟩ = unpI d x.toNat y.toNat:=by simp [apI]
  rw [e]
  have hn':((apD d ⟨4,x,y,s,o⟩).n:Int) = d.n - 2:=by rw [hn]; simp [gro]; omega
  obtain ⟨hx0,hxy,hyn⟩:0 ≤ x ∧ x < y ∧ y < d.n := by
   unfold inR at hin
   simp at hin
   exact ⟨hin.1,hin.2.1,hin.2.2.1⟩
  obtain ⟨a,ha⟩:∃ a,a = x.toNat := ⟨_,rfl⟩
  obtain ⟨b,hb⟩:∃ b,b = y.toNat := ⟨_,rfl⟩
  have hab:a < b:=by omega
  have hbn:b < d.n:=by omega
  rw [← ha,← hb] at hc ⊢
  simp at hc
  unfold unpC at hc
  unfold unpI
  cases hl:lensI d a b with
  | none => rw [hl] at hc; simp at hc
  | some i =>
    obtain ⟨L,hp,e1,e2⟩:=lens_lens hw hab hbn hl
    obtain ⟨h',hh'⟩:∃ h',h' = lnH a b i := ⟨_,rfl⟩
    rw [← hh'] at L hp e1 e2
    obtain ⟨u,hu'⟩:∃ u,u = d.m h' := ⟨_,rfl⟩
    rw [← hu'] at L hp e1 e2
    have E:=L.ne
    have hh:=L.hh
    have hu:=L.hu hw
    have p2:(lensOf d h').p2 = Pl.tn h' 2:=rfl
    have p3:(lensOf d h').p3 = Pl.tn h' 3:=by show Pl.tn (d.m (Pl.nx d h')) 2 = _; rw [e1,e2]; exact Pl.tn12 _
    have q0:(lensOf d h').q0 = Pl.tn u 2:=by show Pl.tn (d.m h') 2 = _; rw [← hu']
    have q3:(lensOf d h').q3 = Pl.tn u 1:=by show Pl.tn (Pl.nx d h') 2 = _; rw [e1]; exact Pl.tn32 _
    have nc:=L.no_cross hd
    have l2:Pl.tn h' 2 < 4 * d.n:=Pl.tn_lt hh
    have l3:Pl.tn h' 3 < 4 * d.n:=Pl.tn_lt hh
    have r2:Pl.tn u 2 < 4 * d.n:=Pl.tn_lt hu
    have r1:Pl.tn u 1 < 4 * d.n:=Pl.tn_lt hu
    have sw:∀ {g g':Nat},g < 4 * d.n → d.m g = g' → d.m g' = g:=fun hg q => by rw [← q,hw.inv _ hg]
    have pz:∀ {j k:Nat},j % 4 ≠ k % 4 → Pl.tn h' j ≠ Pl.tn h' k:=fun q => Pl.tn_ne q
    have uz:∀ {j k:Nat},j % 4 ≠ k % 4 → Pl.tn u j ≠ Pl.tn u k:=fun q => Pl.tn_ne q
    have P3:∀ (c1:d.m (Pl.tn h' 3) ≠ Pl.tn u 1) (c2:d.m (Pl.tn h' 2) ≠ Pl.tn h' 3),((Pl.shf [a,b] (d.m (Pl.tn h' 3)):Nat):Int) < 4 * ((apD d ⟨4,x,y,s,o⟩).n:Int):=fun c1 c2 => by
     have:=lens_out hd L hab hbn hp l3 (fun q => c2 (sw l3 q)) (hw.ne _ l3) c1 nc (Ne.symm (Pl.pmz (by omega))) (pz (by omega)) (Pl.pm0 E) (Pl.pm E)
     omega
    have Q0:∀ (c1:d.m (Pl.tn u 2) ≠ Pl.tn u 1) (c2:d.m (Pl.tn u 2) ≠ Pl.tn h' 2),((Pl.shf [a,b] (d.m (Pl.tn u 2)):Nat):Int) < 4 * ((apD d ⟨4,x,y,s,o⟩).n:Int):=fun c1 c2 => by
     have:=lens_out hd L hab hbn hp r2 c2 (fun q => nc (sw r2 q)) c1 (hw.ne _ r2) (Pl.pm0 (Ne.symm E)) (Ne.symm (Pl.pm E)) (Ne.symm (Pl.pmz (by omega))) (uz (by omega))
     omega
    dsimp only
    rw [← hh']
    refine ⟨fun q => by simp [pusI] at q,fun q => by simp [pusI] at q,fun _ => ?_,fun _ _ q => absurd rfl q⟩
    show -9223372036854775808 ≤ pusX d (lensOf d h') a b ∧ pusX d (lensOf d h') a b < 4 * ((apD d ⟨4,x,y,s,o⟩).n:Int) ∧ -9223372036854775808 ≤ pusY d (lensOf d h') a b ∧ pusY d (lensOf d h') a b < 4 * ((apD d ⟨4,x,y,s,o⟩).n:Int)
    unfold pusX pusY
    rw [p2,p3,q0,q3]
    unfold oldv
    have v3:=lpv_lt d (Pl.tn h' 3)
    have v0:=lpv_lt d (Pl.tn u 2)
    by_cases c1:d.m (Pl.tn u 1) = Pl.tn u 2
    ·rw [if_pos c1,if_pos c1]
     by_cases c2:d.m (Pl.tn h' 2) = Pl.tn h' 3
     ·rw [if_pos c2]
      refine ⟨by omega,by omega,by omega,by omega⟩
     ·have h3:=P3 (fun q => by rw [sw l3 q] at c1; exact Pl.pm E c1) c2
      rw [if_neg c2]
      refine ⟨by omega,h3,by omega,h3⟩
    ·rw [if_neg c1,if_neg c1]
     have c1':d.m (Pl.tn u 2) ≠ Pl.tn u 1:=fun q => c1 (sw r2 q)
     by_cases c2:d.m (Pl.tn h' 2) = Pl.tn h' 3
     ·have h0:=Q0 c1' (fun q => by rw [sw r2 q] at c2; exact Pl.pm E c2.symm)
      rw [if_pos c2,if_pos c2]
      refine ⟨by omega,h0,by omega,h0⟩
     ·rw [if_neg c2,if_neg c2]
      constructor
      ·split <;> omega
      ·refine ⟨?_,?_,?_⟩
       ·by_cases c3:d.m (Pl.tn h' 3) = Pl.tn u 1
        ·rw [if_pos c3]; omega
        ·rw [if_neg c3]; exact P3 c3 c2
       ·split <;> omega
       ·by_cases c4:d.m (Pl.tn u 2) = Pl.tn h' 2
        ·rw [if_pos c4]; omega
        ·rw [if_neg c4]; exact Q0 c1' c4
 ·have k5:k = 5:=by omega
  subst k5
  have e:apI d ⟨5,x,y,s,o⟩ = sldI d x.toNat:=by simp [apI]
  rw [e]
  have hn':((apD d ⟨5,x,y,s,o⟩).n:Int) = d.n:=by rw [hn]; simp [gro]
  obtain ⟨hx0,hx1⟩:0 ≤ x ∧ x < 4 * d.n := by
   unfold inR at hin
   simp at hin
   exact ⟨hin.1,hin.2.1⟩
  have hT:is3 d x.toNat:=by
   simp at hc
   unfold sldC at hc
   by_cases q:isT d x.toNat
   ·exact q.1
   ·rw [if_neg q] at hc; simp at hc
  have:=(sX_v hw (h := x.toNat) (by omega) hT).1
  refine ⟨fun q => by simp [sldI] at q,fun q => by simp [sldI] at q,fun q => by simp [sldI] at q,fun _ _ _ => ⟨by show (-9223372036854775808:Int) ≤ (sX d x.toNat (4 * d.n):Nat); omega,by show ((sX d x.toNat (4 * d.n):Nat):Int) < 4 * _; omega⟩⟩
end Go.Proofs.YtghdiolnonejaaaGreatDoor
end
section
namespace Go.Proofs.YtghdiolnonejaaaGreatDoor
open Go Go.RowKit
theorem own_neT {W:World} {base b n sz:Nat} {e t:TypeId} {v:Value} {xs vs:List Value} (h:W.ownsRow base e sz v n xs) (hr:Row W b t vs) (ht:e ≠ t):some b ≠ v.ownBlock := by
 intro e'
 obtain ⟨cs,fr,h3⟩:=ownsRow_block h b e'.symm
 rw [hr] at h3
 injection h3 with h3
 injection h3 with _ h4
 exact ht h4.symm
theorem news_at {t:TypeId} (W:World) (vs:List Value):∀ j u,vs[j]? = some u → (W.alloc (.cells vs.toArray t)).cell? ((⟨W.heap.size,0,none⟩:Addr).add j) = some u := by
 intro j u hu
 have hj:j < vs.length:=(List.getElem?_eq_some_iff.1 hu).1
 have h:=(row_at (W := W) (g := W.heap.size) (t := t) (vs := vs) rfl).cell (i := j) hj
 rw [show (⟨W.heap.size,0,none⟩:Addr).add j = ⟨W.heap.size,j,none⟩ by by_cases h:j = 0 <;> simp [Addr.add,h]]
 rw [h]
 rw [List.getElem?_eq_getElem hj] at hu
 exact hu
def MvsA (w:World) (A:Option Addr) (n:Nat) (ms:List Mv):Prop := n = ms.length ∧ (0 < n → ∃ b o,A = some ⟨b,o,none⟩ ∧ ∀ (j:Nat) (z:Mv),ms[j]? = some z → ∀ (i:Nat) (u:Value),z.cells[i]? = some u → w.cell? ⟨b,o + j * 5 + i,none⟩ = some u)
theorem MvsA.keep {w w':World} {A:Option Addr} {n:Nat} {ms:List Mv} (h:MvsA w A n ms) (hb:Below w.heap.size w w'):MvsA w' A n ms :=
 ⟨h.1,fun hp => let ⟨b,o,e,hc⟩:=h.2 hp; ⟨b,o,e,fun j z hz i u hu => cell_below (hc j z hz i u hu) hb⟩⟩
theorem MvsA.at_ {w:World} {A:Option Addr} {n j:Nat} {ms:List Mv} (h:MvsA w A n ms) (hj:j < n):∃ b o k x y s v,A = some ⟨b,o,none⟩ ∧ ms[j]? = some ⟨k,x,y,s,v⟩ ∧ w.cell? ⟨b,o + j * 5,none⟩ = some (.int .i64 k) ∧ w.cell? ⟨b,o + j * 5 + 1,none⟩ = some (.int .i64 x) ∧ w.cell? ⟨b,o + j * 5 + 2,none⟩ = some (.int .i64 y) ∧ w.cell? ⟨b,o + j * 5 + 3,none⟩ = some (.int .i64 s) ∧ w.cell? ⟨b,o + j * 5 + 4,none⟩ = some (.bool v) := by
 obtain ⟨b,o,e,hc⟩:=h.2 (by omega)
 have hj':j < ms.length:=by rw [← h.1]; exact hj
 have hz:ms[j]? = some (ms[j]'hj'):=List.getElem?_eq_getElem hj'
 obtain ⟨z,hz'⟩:∃ z,z = ms[j]'hj' := ⟨_,rfl⟩
 rw [← hz'] at hz
 clear hz'
 obtain ⟨k,x,y,s,v⟩:=z
 exact ⟨b,o,k,x,y,s,v,e,hz,hc j _ hz 0 _ rfl,hc j _ hz 1 _ rfl,hc j _ hz 2 _ rfl,hc j _ hz 3 _ rfl,hc j _ hz 4 _ rfl⟩
theorem MovesV.a {w:World} {A:Option Addr} {n:Nat} {ms:List Mv} (h:MovesV w A n ms):MvsA w A n ms :=
 ⟨h.1,fun hp => let ⟨g,e,_,hc⟩:=h.2 hp; ⟨g,0,e,fun j z hz i u hu => by rw [Nat.zero_add]; exact hc j z hz i u hu⟩⟩
end Go.Proofs.YtghdiolnonejaaaGreatDoor
end
