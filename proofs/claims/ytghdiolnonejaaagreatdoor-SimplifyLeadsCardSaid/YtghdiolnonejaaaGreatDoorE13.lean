/-
 The texts Ng, Nj.
-/
import Derived.Test.YtghdiolnonejaaaGreatDoorE07
set_option linter.unusedVariables false
set_option linter.unusedSimpArgs false
section
namespace Go.Proofs.YtghdiolnonejaaaGreatDoor
open Go Go.RowKit
attribute [local go_sem ↓] Go.wp_at_zero Go.wp_at_succ
theorem run_ints0 (n:Nat) (hn:n ≤ 100000) (w:World) (z:Int) (hz:z = (n:Int)):(Instr.makeSlice 22 (.int .i64 0) (.int .i64 z)).run Tryz.prog w = .ok (.slice (some ⟨w.heap.size,0,none⟩) 0 n) (w.alloc (.cells (Array.replicate n (Value.int .i64 0)) 3)) := by
 subst hz
 obtain ⟨i0,hi,hz0,hz1,hz2⟩:=info_parts intInfo
 have:=run_make (P := Tryz.prog) w 22 3 i0 (.int .i64 0) Tryz.underlying22 hi hz0 .i64 .i64 0 n (Int.le_refl _) (by omega) (by rw [hz2]; omega) (by omega)
 rw [hz1,Nat.mul_one,Int.toNat_natCast,show madeCells (Value.cells (.int .i64 0)) n = (List.replicate n (.int .i64 0)).toArray from made_rep _ _] at this
 exact this
def AdOk:Nat → Nat → List Nat → Prop
 | _,_,[] => True
 | l,m,a :: r => l ≤ a ∧ a ≤ l + m ∧ AdOk (a + 1) (l + m - a) r
theorem AdOk.put {l m a:Nat} {r:List Nat} (h:AdOk l m (a :: r)) (e:a = l):AdOk (l + 1) m r := by
 have h3:=h.2.2
 rw [e,show l + m - l = m by omega] at h3
 exact h3
theorem AdOk.next {l m a:Nat} {r:List Nat} (h:AdOk l (m + 1) (a :: r)) (e:a ≠ l):AdOk (l + 1) m (a :: r) := by
 obtain ⟨h1,h2,h3⟩:=h
 refine ⟨by omega,by omega,?_⟩
 rw [show l + 1 + m - a = l + (m + 1) - a by omega]
 exact h3
theorem AdOk.more {l a:Nat} {r:List Nat} (h:AdOk l 0 (a :: r)):a = l := by have := h.1; have := h.2.1; omega
set_option maxRecDepth 100000 in
set_option maxHeartbeats 8000000 in
theorem add_any (xs:List Int) (bs:List Nat) (A B:Option Addr) (n q c e0:Nat) (w:World) (hA:IntsAt w A n xs) (hB:IntsAt w B q (nats bs)) (hn:n ≤ 1000) (hq:q ≤ 1000) (hc:n ≤ c) (he:q ≤ e0) (hok:AdOk 0 n bs) :
 Calls Tryz.prog 54 #[.slice A n c,.slice B q e0] w fun e w' => ∃ (v:Value) (ys:List Int),e = .returned v ∧ w'.ownsRow w.heap.size 3 1 v (n + q) (ys.map (.int .i64)) ∧ Below w.heap.size w w' := by
 have HA:=hide hA
 have HB:=hide hB
 have HOK:=hide hok
 have hmk:∀ W:World,(Instr.makeSlice 22 (.int .i64 0) (.int .i64 ((n:Int) + (q:Int)))).run Tryz.prog W = .ok (.slice (some ⟨W.heap.size,0,none⟩) 0 (n + q)) (W.alloc (.cells (Array.replicate (n + q) (Value.int .i64 0)) 3)):=fun W => run_ints0 (n + q) (by omega) W _ (by omega)
 have O0:=hide (show (w.alloc (.cells (Array.replicate (n + q) (Value.int .i64 0)) 3)).ownsRow w.heap.size 3 1 (.slice (some ⟨w.heap.size,0,none⟩) 0 (n + q)) 0 [] from World.ownsRow_made w _ _ (Nat.le_refl _) (by unfold maxLen; omega) (by simp))
 have B0:=hide (show Below w.heap.size w (w.alloc (.cells (Array.replicate (n + q) (Value.int .i64 0)) 3)) from (Below.refl _ _).alloc (Nat.le_refl _) _)
 clear hA hB hok
 go_enter Tryz.func54,Tryz.ntmps54
 go_wp2_with fail
 go_loopg [0,1,5,6] (n + q) (fun g s0 s1 s5 s6 wx => ∃ (m p l:Nat) (A1 B1:Option Addr) (c1 e1:Nat) (x1:List Int) (a1:List Nat) (cnt:Int) (ys:List Int),m + p = g ∧ l + m + p = n + q ∧ s0 = .slice A1 m c1 ∧ s1 = .slice B1 p e1 ∧ m ≤ c1 ∧ p ≤ e1 ∧ IntsAt w A1 m x1 ∧ IntsAt w B1 p (nats a1) ∧ AdOk l m a1 ∧ s6 = .int .i64 cnt ∧ wx.ownsRow w.heap.size 3 1 s5 l (ys.map (.int .i64)) ∧ Below w.heap.size w wx)
 case atStart => exact ⟨n,q,0,A,B,c,e0,xs,bs,_,[],rfl,by omega,rfl,rfl,hc,he,HA.out,HB.out,HOK.out,rfl,O0.out,B0.out⟩
 case round =>
  clear O0 B0
  obtain ⟨m,p,l,A1,B1,c1,e1,x1,a1,cnt,ys,hg,hl,rfl,rfl,hmc,hpe,hA1,hB1,had,rfl,ho,hb⟩:=hrel
  have HG:=hide hg
  have HLL:=hide hl
  have HA1:=hide hA1
  have HB1:=hide hB1
  have HAD:=hide had
  have OW:=hide ho
  have HBW:=hide hb
  have hbig:w.heap.size ≤ wr.heap.size:=HBW.out.size
  have hll:l ≤ 2000:=by omega
  have hpl:=HB1.out.len
  unfold nats at hpl
  rw [List.length_map] at hpl
  obtain ⟨A5,c5,rfl⟩:=owns_slice OW.out
  obtain ⟨i0,hi0,hz0,hz1,hz2⟩:=info_parts intInfo
  clear hA1 hB1 had ho hb hg hl
  by_cases hp:0 < p
  ·obtain ⟨a, r, rfl⟩ : ∃ a r, a1 = a :: r := by
    cases a1 with
    | nil => simp at hpl; omega
    | cons a r => exact ⟨a,r,rfl⟩
   obtain ⟨bb,oo,hB1e,x0⟩:=(HB1.out.keep HBW.out).at_ hp
   subst hB1e
   have hx0:(nats (a :: r)).getD 0 0 = (a:Int):=rfl
   rw [hx0] at x0
   simp only [Nat.add_zero] at x0
   have hpi:(0:Int) < (p:Int):=by omega
   by_cases hal:a = l
   ·subst hal
    obtain ⟨B2,hB2,hcut⟩:=cut_hi (A := some ⟨bb,oo,none⟩) (c := e1) HB1.out (k := 1) (by omega) (by omega)
    have hcut':∀ W:World,(Instr.slice 22 (.slice (some ⟨bb,oo,none⟩) p e1) (some (.int .i64 1)) none none).run Tryz.prog W = .ok (.slice B2 (p - 1) (e1 - 1)) W:=hcut
    have HB2:=hide (show IntsAt w B2 (p - 1) (nats r) from hB2)
    have OA:=hide (own_below OW.out ((Below.refl wr.heap.size wr).alloc (Nat.le_refl _) (.cells #[.int .i64 cnt] 3)))
    have HAD2:=hide (HAD.out.put rfl)
    clear hB2 hcut hx0
    by_cases hm:0 < m
    ·have hmi:(0:Int) < (m:Int):=by omega
     go_wp2_with (at_builtin; refine wpList_append_lies _ (by rfl) _ _ 22 (by rfl) w.heap.size 3 i0 (.int .i64 0) 1 8 Tryz.underlying22 hi0 hz0 hz1 hz2 rfl (by omega) _ a _ (by rfl) OA.out ⟨wr.heap.size,0,none⟩ 1 1 [.int .i64 cnt] (by rfl) (by rfl) (one_news _ _) (by simp [Value.oneCell']) (by omega) (by unfold maxLen; omega) (by omega) (by simp; omega) (wr.heap.size + 1) (by simp) ?_; intro g3 c3 w3 own3 grow3 at3 lt3; have OWN3 := hide own3; have GR3 := hide grow3; clear own3 grow3 at3)
     go_roundg (m + (p - 1))
     case measure => have := HG.out; omega
     case rel =>
      refine ⟨m,p - 1,a + 1,A1,B2,c1,e1 - 1,x1,r,_,ys ++ [cnt],rfl,by have := HLL.out; omega,rfl,rfl,hmc,by omega,HA1.out,HB2.out,HAD2.out,rfl,?_,(HBW.out.alloc hbig _).grown GR3.out (by simp; omega) (fun j hj => (OA.out.lt j hj).1)⟩
      rw [List.map_append]; exact OWN3.out
    ·obtain rfl:m = 0 := by omega
     go_wp2_with (at_builtin; refine wpList_append_lies _ (by rfl) _ _ 22 (by rfl) w.heap.size 3 i0 (.int .i64 0) 1 8 Tryz.underlying22 hi0 hz0 hz1 hz2 rfl (by omega) _ a _ (by rfl) OA.out ⟨wr.heap.size,0,none⟩ 1 1 [.int .i64 cnt] (by rfl) (by rfl) (one_news _ _) (by simp [Value.oneCell']) (by omega) (by unfold maxLen; omega) (by omega) (by simp; omega) (wr.heap.size + 1) (by simp) ?_; intro g3 c3 w3 own3 grow3 at3 lt3; have OWN3 := hide own3; have GR3 := hide grow3; clear own3 grow3 at3)
     go_roundg (0 + (p - 1))
     case measure => have := HG.out; omega
     case rel =>
      refine ⟨0,p - 1,a + 1,A1,B2,c1,e1 - 1,x1,r,_,ys ++ [cnt],rfl,by have := HLL.out; omega,rfl,rfl,hmc,by omega,HA1.out,HB2.out,HAD2.out,rfl,?_,(HBW.out.alloc hbig _).grown GR3.out (by simp; omega) (fun j hj => (OA.out.lt j hj).1)⟩
      rw [List.map_append]; exact OWN3.out
   ·have hm : 0 < m := by
     rcases Nat.eq_zero_or_pos m with h0 | h0
     ·exfalso
      have h:=HAD.out
      rw [h0] at h
      exact hal h.more
     ·exact h0
    have hali:¬ ((a:Int) = (l:Int)):=by omega
    have halb:((a:Int) == (l:Int)) = false:=by rw [beq_eq_false_iff_ne]; exact hali
    clear hx0
    obtain ⟨b2,o2,hA1e,y0⟩:=(HA1.out.keep HBW.out).at_ hm
    subst hA1e
    obtain ⟨xv,hxv⟩:∃ z,z = Pl.pv x1 0 := ⟨_,rfl⟩
    first | rw [← hxv] at y0 | (rw [show x1.getD 0 0 = xv from hxv.symm] at y0)
    obtain ⟨A2,hA2,hcut⟩:=cut_hi (A := some ⟨b2,o2,none⟩) (c := c1) HA1.out (k := 1) (by omega) (by omega)
    have HA2:=hide hA2
    have hmi:(0:Int) < (m:Int):=by omega
    simp only [Nat.add_zero] at y0
    have hcut':∀ W:World,(Instr.slice 22 (.slice (some ⟨b2,o2,none⟩) m c1) (some (.int .i64 1)) none none).run Tryz.prog W = .ok (.slice A2 (m - 1) (c1 - 1)) W:=hcut
    have OA:=hide (own_below OW.out ((Below.refl wr.heap.size wr).alloc (Nat.le_refl _) (.cells #[.int .i64 xv] 3)))
    clear hA2 hxv hcut
    go_wp2_with (at_builtin; refine wpList_append_lies _ (by rfl) _ _ 22 (by rfl) w.heap.size 3 i0 (.int .i64 0) 1 8 Tryz.underlying22 hi0 hz0 hz1 hz2 rfl (by omega) _ l _ (by rfl) OA.out ⟨wr.heap.size,0,none⟩ 1 1 [.int .i64 xv] (by rfl) (by rfl) (one_news _ _) (by simp [Value.oneCell']) (by omega) (by unfold maxLen; omega) (by omega) (by simp; omega) (wr.heap.size + 1) (by simp) ?_; intro g3 c3 w3 own3 grow3 at3 lt3; have OWN3 := hide own3; have GR3 := hide grow3; clear own3 grow3 at3)
    go_roundg (m - 1 + p)
    case measure => have := HG.out; omega
    case rel =>
     refine ⟨m - 1,p,l + 1,A2,some ⟨bb,oo,none⟩,c1 - 1,e1,_,(a :: r),cnt,ys ++ [xv],rfl,by have := HLL.out; omega,rfl,rfl,by omega,hpe,HA2.out,HB1.out,?_,rfl,?_,(HBW.out.alloc hbig _).grown GR3.out (by simp; omega) (fun j hj => (OA.out.lt j hj).1)⟩
     ·obtain ⟨m2,rfl⟩:∃ m2,m = m2 + 1 := ⟨m - 1,by omega⟩
      exact HAD.out.next hal
     ·rw [List.map_append]; exact OWN3.out
  ·obtain rfl:p = 0 := by omega
   by_cases hm:0 < m
   ·have hnil:a1 = []:=List.length_eq_zero_iff.1 (by omega)
    obtain ⟨b2,o2,hA1e,y0⟩:=(HA1.out.keep HBW.out).at_ hm
    subst hA1e
    obtain ⟨xv,hxv⟩:∃ z,z = Pl.pv x1 0 := ⟨_,rfl⟩
    first | rw [← hxv] at y0 | (rw [show x1.getD 0 0 = xv from hxv.symm] at y0)
    obtain ⟨A2,hA2,hcut⟩:=cut_hi (A := some ⟨b2,o2,none⟩) (c := c1) HA1.out (k := 1) (by omega) (by omega)
    have HA2:=hide hA2
    have hmi:(0:Int) < (m:Int):=by omega
    simp only [Nat.add_zero] at y0
    have hcut':∀ W:World,(Instr.slice 22 (.slice (some ⟨b2,o2,none⟩) m c1) (some (.int .i64 1)) none none).run Tryz.prog W = .ok (.slice A2 (m - 1) (c1 - 1)) W:=hcut
    have OA:=hide (own_below OW.out ((Below.refl wr.heap.size wr).alloc (Nat.le_refl _) (.cells #[.int .i64 xv] 3)))
    clear hA2 hxv hcut
    go_wp2_with (at_builtin; refine wpList_append_lies _ (by rfl) _ _ 22 (by rfl) w.heap.size 3 i0 (.int .i64 0) 1 8 Tryz.underlying22 hi0 hz0 hz1 hz2 rfl (by omega) _ l _ (by rfl) OA.out ⟨wr.heap.size,0,none⟩ 1 1 [.int .i64 xv] (by rfl) (by rfl) (one_news _ _) (by simp [Value.oneCell']) (by omega) (by unfold maxLen; omega) (by omega) (by simp; omega) (wr.heap.size + 1) (by simp) ?_; intro g3 c3 w3 own3 grow3 at3 lt3; have OWN3 := hide own3; have GR3 := hide grow3; clear own3 grow3 at3)
    go_roundg (m - 1 + 0)
    case measure => have := HG.out; omega
    case rel =>
     refine ⟨m - 1,0,l + 1,A2,B1,c1 - 1,e1,_,a1,cnt,ys ++ [xv],rfl,by have := HLL.out; omega,rfl,rfl,by omega,hpe,HA2.out,HB1.out,?_,rfl,?_,(HBW.out.alloc hbig _).grown GR3.out (by simp; omega) (fun j hj => (OA.out.lt j hj).1)⟩
     ·rw [hnil]; trivial
     ·rw [List.map_append]; exact OWN3.out
   ·obtain rfl:m = 0 := by omega
    have hln:l = n + q:=by have := HLL.out; omega
    subst hln
    go_wp2_with fail
    go_ret
    exact ⟨_,ys,rfl,OW.out,HBW.out⟩
end Go.Proofs.YtghdiolnonejaaaGreatDoor
end
section
namespace Go.Proofs.YtghdiolnonejaaaGreatDoor
open Go Go.RowKit
attribute [local go_sem ↓] Go.wp_at_zero Go.wp_at_succ
theorem row_ownsI {W:World} {base g n:Nat} {t:TypeId} {vs:List Value} (h:Row W g t vs) (hb:base ≤ g) (hn:vs.length = n) (hm:n ≤ maxLen):W.ownsRow base t 1 (.slice (some ⟨g,0,none⟩) n n) n vs :=
 ⟨by omega,.inr ⟨g,n,vs.toArray,rfl,hb,h,Nat.le_refl _,hm,by simp [hn],by simp only [Nat.mul_one]; rw [← hn,List.take_length]⟩⟩
theorem own_neI {W:World} {base base' n m sz sz':Nat} {e t:TypeId} {v u:Value} {xs ys:List Value} (h:W.ownsRow base e sz v n xs) (h':W.ownsRow base' t sz' u m ys) (ht:e ≠ t):v.ownBlock = none ∨ v.ownBlock ≠ u.ownBlock := by
 cases hv:v.ownBlock with
 | none => exact .inl rfl
 | some g =>
   refine .inr (fun e' => ?_)
   obtain ⟨cs,fr,h3⟩:=ownsRow_block h g hv
   obtain ⟨cs',fr',h4⟩:=ownsRow_block h' g e'.symm
   rw [h3] at h4
   injection h4 with h4
   injection h4 with _ h5
   exact ht h5
theorem run_moves0 (n:Nat) (hn:n ≤ 1000000) (w:World):(Instr.makeSlice 27 (.int .i64 0) (.int .i64 (n:Int))).run Tryz.prog w = .ok (.slice (some ⟨w.heap.size,0,none⟩) 0 n) (w.alloc (.cells (madeCells (Value.cells (.agg #[.int .i64 0,.int .i64 0,.int .i64 0,.int .i64 0,.bool false])) (n * 5)) 43)) := by
 obtain ⟨i0,hi,hz0,hz1,hz2⟩:=info_parts moveInfo
 have:=run_make (P := Tryz.prog) w 27 43 i0 (.agg #[.int .i64 0,.int .i64 0,.int .i64 0,.int .i64 0,.bool false]) Tryz.underlying27 hi hz0 .i64 .i64 0 n (Int.le_refl _) (by omega) (by rw [hz2]; omega) (by omega)
 rw [hz1,Int.toNat_natCast] at this
 exact this
structure Stp where
 m:Mv
 i:Mv
 f:Int
def Stp.cells (s:Stp):List Value := s.m.cells ++ s.i.cells ++ [.int .i64 s.f]
def StV (w:World) (A:Option Addr) (n:Nat) (ss:List Stp):Prop := n = ss.length ∧ (0 < n → ∃ g,A = some ⟨g,0,none⟩ ∧ ∀ (j:Nat) (z:Stp),ss[j]? = some z → ∀ (i:Nat) (u:Value),z.cells[i]? = some u → w.cell? ⟨g,j * 11 + i,none⟩ = some u)
theorem StV.keep {w w':World} {A:Option Addr} {n:Nat} {ss:List Stp} (h:StV w A n ss) (hb:Below w.heap.size w w'):StV w' A n ss :=
 ⟨h.1,fun hp => let ⟨g,e,hc⟩:=h.2 hp; ⟨g,e,fun j z hz i u hu => cell_below (hc j z hz i u hu) hb⟩⟩
theorem StV.at_ {w:World} {A:Option Addr} {n j:Nat} {ss:List Stp} (h:StV w A n ss) (hj:j < n):∃ g k x y s v k' x' y' s' v' f,A = some ⟨g,0,none⟩ ∧ ss[j]? = some ⟨⟨k,x,y,s,v⟩,⟨k',x',y',s',v'⟩,f⟩ ∧
 w.cell? ⟨g,j * 11,none⟩ = some (.int .i64 k) ∧ w.cell? ⟨g,j * 11 + 1,none⟩ = some (.int .i64 x) ∧ w.cell? ⟨g,j * 11 + 2,none⟩ = some (.int .i64 y) ∧ w.cell? ⟨g,j * 11 + 3,none⟩ = some (.int .i64 s) ∧ w.cell? ⟨g,j * 11 + 4,none⟩ = some (.bool v) ∧
 w.cell? ⟨g,j * 11 + 5,none⟩ = some (.int .i64 k') ∧ w.cell? ⟨g,j * 11 + 6,none⟩ = some (.int .i64 x') ∧ w.cell? ⟨g,j * 11 + 7,none⟩ = some (.int .i64 y') ∧ w.cell? ⟨g,j * 11 + 8,none⟩ = some (.int .i64 s') ∧ w.cell? ⟨g,j * 11 + 9,none⟩ = some (.bool v') ∧ w.cell? ⟨g,j * 11 + 10,none⟩ = some (.int .i64 f) := by
 obtain ⟨g,e,hc⟩:=h.2 (by omega)
 have hj':j < ss.length:=by rw [← h.1]; exact hj
 have hz:ss[j]? = some (ss[j]'hj'):=List.getElem?_eq_getElem hj'
 obtain ⟨z,hz'⟩:∃ z,z = ss[j]'hj' := ⟨_,rfl⟩
 rw [← hz'] at hz
 clear hz'
 obtain ⟨⟨k,x,y,s,v⟩,⟨k',x',y',s',v'⟩,f⟩:=z
 exact ⟨g,k,x,y,s,v,k',x',y',s',v',f,e,hz,hc j _ hz 0 _ rfl,hc j _ hz 1 _ rfl,hc j _ hz 2 _ rfl,hc j _ hz 3 _ rfl,hc j _ hz 4 _ rfl,hc j _ hz 5 _ rfl,hc j _ hz 6 _ rfl,hc j _ hz 7 _ rfl,hc j _ hz 8 _ rfl,hc j _ hz 9 _ rfl,hc j _ hz 10 _ rfl⟩
def StOk (N N':Nat) (s:Stp):Prop :=
 TrIn N' s.i ∧ (s.m.kind = 1 → N' = N + 1) ∧ (s.m.kind = 3 → N' = N + 2) ∧ (s.m.kind = 2 → N = N' + 1 ∧ 0 ≤ s.m.x ∧ s.m.x < N) ∧
 (s.m.kind = 4 → N = N' + 2 ∧ 0 ≤ s.m.x ∧ s.m.x < s.m.y ∧ s.m.y < N ∧ (s.f = s.m.x ∨ s.f = s.m.y)) ∧ (s.m.kind ≠ 1 → s.m.kind ≠ 2 → s.m.kind ≠ 3 → s.m.kind ≠ 4 → N' = N)
set_option maxRecDepth 100000 in
set_option maxHeartbeats 8000000 in
theorem back_any (ss:List Stp) (sz:Nat → Nat) (A:Option Addr) (n c:Nat) (N:Nat) (w:World) (hA:StV w A n ss) (hn:n ≤ 10000) (hN:N = sz n) (hsz:∀ j,j ≤ n → sz j ≤ 100) (hok:∀ j s,ss[j]? = some s → StOk (sz j) (sz (j + 1)) s) :
 Calls Tryz.prog 28 #[.slice A n c,.int .i64 (N:Int)] w fun e w' => (∃ (B:Option Addr) (cb:Nat) (ms:List Mv),e = .returned (.slice B n cb) ∧ w'.ownsRow w.heap.size 43 5 (.slice B n cb) n (mvs ms)) ∧ Below w.heap.size w w' := by
 have HA:=hide hA
 have HSZ:=hide hsz
 have HOK:=hide hok
 have HN:=hide hN
 have hN100:N ≤ 100:=by rw [hN]; exact hsz n (Nat.le_refl _)
 have hmk:=fun W:World => run_ints N (by omega) W
 have hmv:=fun W:World => run_moves0 n (by omega) W
 have R0:=hide (IRow.made w N)
 have O0:=hide (show (w.alloc (.cells (Array.replicate N (Value.int .i64 0)) 3)).ownsRow w.heap.size 3 1 (.slice (some ⟨w.heap.size,0,none⟩) N N) N ((List.replicate N 0).map (.int .i64)) from row_ownsI R0.out (Nat.le_refl _) (by simp) (by unfold maxLen; omega))
 have B0:=hide (show Below w.heap.size w (w.alloc (.cells (Array.replicate N (Value.int .i64 0)) 3)) from (Below.refl _ _).alloc (Nat.le_refl _) _)
 clear hA hN hsz hok
 go_enter Tryz.func28,Tryz.ntmps28
 go_wp2_with fail
 go_loopg [6,15] N (fun g s6 i wx => ∃ k:Nat,k + g = N ∧ i = .int .i64 (k:Int) ∧ (∃ ys:List Int,wx.ownsRow w.heap.size 3 1 (.slice (some ⟨w.heap.size,0,none⟩) N N) N (ys.map (.int .i64))) ∧ Below w.heap.size w wx)
 case atStart => exact ⟨0,by omega,rfl,⟨_,O0.out⟩,B0.out⟩
 case round =>
  clear O0 B0 R0
  obtain ⟨k,hkg,rfl,⟨ys,hy⟩,hb⟩:=hrel
  have HKG:=hide hkg
  have HY:=hide hy
  have HB:=hide hb
  by_cases hk:k < N
  ·have hki:(k:Int) < (N:Int):=by omega
   have k0:(0:Int) ≤ (k:Int):=by omega
   have hyl:ys.length = N:=by have := hy.1; simpa using this
   have c1:=World.ownsRow.cellAt hy k (by omega)
   rw [List.getElem?_map,List.getElem?_eq_getElem (by omega)] at c1
   simp only [Option.map_some] at c1
   obtain ⟨y,hyy⟩:∃ z,z = ys[k]'(by omega) := ⟨_,rfl⟩
   rw [← hyy] at c1
   have f1:=World.ownsRow.frozenAt hy k
   clear hkg hy hb hyl hyy
   go_wp2_with fail
   go_roundg (gk - 1)
   case measure => have := HKG.out; omega
   case rel => exact ⟨k + 1,by have := HKG.out; omega,by go_num,⟨ys.set k _,by rw [List.map_set]; exact (World.ownsRow.stored HY.out k _).1⟩,HB.out.setCell (Nat.le_refl _) _⟩
  ·have hki:¬ ((k:Int) < (N:Int)):=by omega
   have hs0:w.heap.size ≤ wr.heap.size:=HB.out.size
   clear hkg hy hb
   go_wp2_with fail
   have OM:=hide (show (wr.alloc (.cells (madeCells (Value.cells (.agg #[.int .i64 0,.int .i64 0,.int .i64 0,.int .i64 0,.bool false])) (n * 5)) 43)).ownsRow w.heap.size 43 5 (.slice (some ⟨wr.heap.size,0,none⟩) 0 n) 0 [] from World.ownsRow_made wr _ _ hs0 (by unfold maxLen; omega) (size_madeCells _ _))
   have ON:=hide (show (wr.alloc (.cells (madeCells (Value.cells (.agg #[.int .i64 0,.int .i64 0,.int .i64 0,.int .i64 0,.bool false])) (n * 5)) 43)).ownsRow w.heap.size 3 1 (.slice (some ⟨w.heap.size,0,none⟩) N N) N (ys.map (.int .i64)) from HY.out.alloc _)
   have BM:=hide (HB.out.alloc hs0 (.cells (madeCells (Value.cells (.agg #[.int .i64 0,.int .i64 0,.int .i64 0,.int .i64 0,.bool false])) (n * 5)) 43))
   go_loopg [5,7,8,9,10] n (fun g s5 s7 s8 s9 s10 wx => ∃ (k:Nat) (ys:List Int) (ms:List Mv),k + g = n ∧ s8 = .int .i64 ((g:Int) - 1) ∧ wx.ownsRow w.heap.size 3 1 s5 (sz g) (ys.map (.int .i64)) ∧ wx.ownsRow w.heap.size 43 5 s7 k (mvs ms) ∧ ms.length = k ∧ Below w.heap.size w wx)
   case atStart => exact ⟨0,ys,[],by omega,rfl,by rw [← HN.out]; exact ON.out,OM.out,rfl,BM.out⟩
   case round =>
    clear OM ON BM HY HB hk hki hs0
    obtain ⟨k1,ys1,ms,hkg1,rfl,hnm,hls,hml,hb1⟩:=hrel
    have HKG1:=hide hkg1
    have HNM:=hide hnm
    have HLS:=hide hls
    have HML:=hide hml
    have HB1:=hide hb1
    obtain ⟨A1,c1,rfl⟩:=owns_slice hnm
    obtain ⟨B1,c7,rfl⟩:=owns_slice hls
    clear hnm hls hml hb1
    by_cases hj:0 < gk
    ·obtain ⟨j,rfl⟩:∃ j,gk = j + 1 := ⟨gk - 1,by omega⟩
     have hi:((j + 1:Nat):Int) - 1 = (j:Int):=by omega
     rw [hi]
     have hjn:j < n:=by omega
     have hjni:(j:Int) < (n:Int):=by omega
     have j0:(0:Int) ≤ (j:Int):=by omega
     obtain ⟨gS,k,x,y,s,o,k',x',y',s',o',f,rfl,hss,a0,a1,a2,a3,a4,b0,b1,b2,b3,b4,b5⟩:=(HA.out.keep HB1.out).at_ hjn
     have HST:=hide (HOK.out j _ hss)
     obtain ⟨N1,hN1⟩:∃ N1,N1 = sz (j + 1) := ⟨_,rfl⟩
     obtain ⟨N0,hN0⟩:∃ N0,N0 = sz j := ⟨_,rfl⟩
     have hN1c:N1 ≤ 100:=by rw [hN1]; exact HSZ.out _ (by omega)
     have hN0c:N0 ≤ 100:=by rw [hN0]; exact HSZ.out _ (by omega)
     rw [← hN1,← hN0] at HST
     rw [← hN1] at HNM ⊢
     have HN0:=hide hN0
     clear hss hN1 hN0 hkg1 hi
     have BX:=hide (show Below wr.heap.size wr (wr.alloc (.cells #[.int .i64 k,.int .i64 x,.int .i64 y,.int .i64 s,.bool o,.int .i64 k',.int .i64 x',.int .i64 y',.int .i64 s',.bool o',.int .i64 f] 55)) from (Below.refl _ _).alloc (Nat.le_refl _) _)
     go_wp2_with fail
     refine (translate_any k' x' y' s' o' N1 c1 A1 ys1 _ (own_ints' (HNM.out.alloc _)) (by omega) HST.out.1).mono ?_
     rintro e w2 ⟨⟨xt,yt,rfl⟩,hb2⟩
     obtain ⟨gb,hgb⟩:∃ g,g = wr.heap.size := ⟨_,rfl⟩
     have X2:=hide (show Row w2 gb 55 [.int .i64 k,.int .i64 x,.int .i64 y,.int .i64 s,.bool o,.int .i64 k',.int .i64 x',.int .i64 y',.int .i64 s',.bool o',.int .i64 f] by rw [hgb]; exact (row_at rfl).below hb2)
     have N2:=hide (own_below HNM.out (BX.out.trans (hb2.mono BX.out.size)))
     have L2:=hide (own_below HLS.out (BX.out.trans (hb2.mono BX.out.size)))
     have B2:=hide (HB1.out.trans ((BX.out.trans (hb2.mono BX.out.size)).mono HB1.out.size))
     rw [← hgb]
     clear hgb hb2 BX a0 a1 a2 a3 a4 b0 b1 b2 b3 b4 b5
     have hs2:w.heap.size ≤ w2.heap.size:=B2.out.size
     have X3:=hide (X2.out.alloc (.cells (Mv.cells ⟨k',xt,yt,s',o'⟩).toArray 43))
     have N3:=hide (N2.out.alloc (.cells (Mv.cells ⟨k',xt,yt,s',o'⟩).toArray 43))
     have L3:=hide (L2.out.alloc (.cells (Mv.cells ⟨k',xt,yt,s',o'⟩).toArray 43))
     have B3:=hide (B2.out.alloc hs2 (.cells (Mv.cells ⟨k',xt,yt,s',o'⟩).toArray 43))
     have NW:=hide (five_news w2 w2.heap.size rfl ⟨k',xt,yt,s',o'⟩)
     have A1':∀ u ∈ Mv.cells ⟨k',xt,yt,s',o'⟩,u.oneCell' = true:=by simp [Mv.cells,Value.oneCell']
     have A2:k1 + 1 ≤ maxLen:=by unfold maxLen; have := HKG1.out; omega
     have A3:(k1 + 1) * 40 ≤ 140737488355328:=by have := HKG1.out; omega
     have HN1:=hide (show w.heap.size ≤ (w2.alloc (.cells (Mv.cells ⟨k',xt,yt,s',o'⟩).toArray 43)).heap.size by simp; omega)
     obtain ⟨n0,hn0,hz0,hz1,hz2⟩:=info_parts moveInfo
     obtain ⟨x20,x21⟩:w2.cell? ⟨gb,5,none⟩ = some (.int .i64 k') ∧ True := ⟨X2.out.cell (i := 5) (by simp),trivial⟩
     go_upto_region 13 with (at_builtin; refine wpList_append_lies _ (by rfl) _ _ 27 (by rfl) w.heap.size 43 n0 (.agg #[.int .i64 0,.int .i64 0,.int .i64 0,.int .i64 0,.bool false]) 5 40 Tryz.underlying27 hn0 hz0 hz1 hz2 rfl (by omega) _ k1 (mvs ms) (by rfl) L3.out ⟨w2.heap.size,0,none⟩ 1 1 (Mv.cells ⟨k',xt,yt,s',o'⟩) (by rfl) (by rfl) NW.out A1' (by omega) A2 A3 HN1.out (w2.heap.size + 1) (by simp) ?_; intro g4 c4 w4 own4 grow4 at4 lt4; have L4 := hide own4; have GR4 := hide grow4; clear own4 grow4 at4 lt4)
     have X4:=hide (X3.out.grown GR4.out (own_row_neM L3.out X3.out (by decide)))
     have N4:=hide (World.ownsRow.kept N3.out GR4.out (own_neI N3.out L3.out (by decide)))
     have B4:=hide (B3.out.grown GR4.out HN1.out (fun j hj => (L3.out.lt j hj).1))
     clear X2 X3 N2 N3 L2 L3 B2 B3 NW A1' A2 A3 HN1 GR4 x20 x21 HNM HLS HB1
     have hs4:w.heap.size ≤ w4.heap.size:=B4.out.size
     have y0:w4.cell? ⟨gb,0,none⟩ = some (.int .i64 k):=X4.out.cell (i := 0) (by simp)
     have y1:w4.cell? ⟨gb,1,none⟩ = some (.int .i64 x):=X4.out.cell (i := 1) (by simp)
     have y2:w4.cell? ⟨gb,2,none⟩ = some (.int .i64 y):=X4.out.cell (i := 2) (by simp)
     have y10:w4.cell? ⟨gb,10,none⟩ = some (.int .i64 f):=X4.out.cell (i := 10) (by simp)
     by_cases k1':k = 1
     ·subst k1'
      have hN:N1 = N0 + 1:=HST.out.2.1 rfl
      subst hN
      obtain ⟨g5,cap5,hA5,_,_⟩:=World.ownsRow.form N4.out (Nat.succ_pos N0)
      injection hA5 with hA5 _ hcc
      subst hA5
      subst hcc
      go_wp2_with fail
      refine (drop_any _ N4.out (by omega)).mono ?_
      rintro e w5 ⟨rfl,⟨ys5,h5⟩,g5r⟩
      have N5:=hide h5
      have L5:=hide (World.ownsRow.kept L4.out g5r (own_neI L4.out N4.out (by decide)))
      have B5:=hide (B4.out.grown g5r hs4 (fun j hj => (N4.out.lt j hj).1))
      clear h5 g5r y0 y1 y2 y10 X4
      go_wp2_with fail
      go_roundg j
      case measure => omega
      case rel =>
       refine ⟨k1 + 1,ys5,ms ++ [⟨k',xt,yt,s',o'⟩],by have := HKG1.out; omega,by go_num,?_,?_,by rw [List.length_append,List.length_singleton,HML.out],?_⟩
       ·rw [← HN0.out]; exact N5.out
       ·rw [mvs_app]; exact L5.out
       ·exact B5.out
     by_cases k3':k = 3
     ·subst k3'
      have hN:N1 = N0 + 2:=HST.out.2.2.1 rfl
      subst hN
      obtain ⟨g5,cap5,hA5,_,_⟩:=World.ownsRow.form N4.out (Nat.succ_pos (N0 + 1))
      injection hA5 with hA5 _ hcc
      subst hA5
      subst hcc
      go_wp2_with fail
      refine (drop_any (n := N0 + 1) _ N4.out (by omega)).mono ?_
      rintro e w5 ⟨rfl,⟨ys5,h5⟩,g5r⟩
      have N5:=hide h5
      have L5:=hide (World.ownsRow.kept L4.out g5r (own_neI L4.out N4.out (by decide)))
      have B5:=hide (B4.out.grown g5r hs4 (fun j hj => (N4.out.lt j hj).1))
      have hs5:w.heap.size ≤ w5.heap.size:=B5.out.size
      clear h5 g5r y0 y1 y2 y10 X4
      go_wp2_with fail
      refine (drop_any (n := N0) _ N5.out (by omega)).mono ?_
      rintro e w6 ⟨rfl,⟨ys6,h6⟩,g6r⟩
      have N6:=hide h6
      have L6:=hide (World.ownsRow.kept L5.out g6r (own_neI L5.out N5.out (by decide)))
      have B6:=hide (B5.out.grown g6r hs5 (fun j hj => (N5.out.lt j hj).1))
      clear h6 g6r
      go_wp2_with fail
      go_roundg j
      case measure => omega
      case rel =>
       refine ⟨k1 + 1,ys6,ms ++ [⟨k',xt,yt,s',o'⟩],by have := HKG1.out; omega,by go_num,?_,?_,by rw [List.length_append,List.length_singleton,HML.out],?_⟩
       ·rw [← HN0.out]; exact N6.out
       ·rw [mvs_app]; exact L6.out
       ·exact B6.out
     by_cases k2':k = 2
     ·subst k2'
      obtain ⟨hN,hx0,hx1⟩:=HST.out.2.2.2.1 rfl
      subst hN
      obtain ⟨a,rfl⟩:=Int.eq_ofNat_of_zero_le hx0
      have haN:a ≤ N1:=by have:(a:Int) < ((N1 + 1:Nat):Int) := hx1; omega
      have NA:=hide (own_ints' (N4.out.alloc (.cells #[.int .i64 (a:Int)] 3)))
      have BA:=hide (row_at (W := w4) (g := w4.heap.size) (t := 3) (vs := [.int .i64 (a:Int)]) rfl)
      have hcap:N1 ≤ c1:=own_cap N4.out
      go_wp2_with fail
      refine (add_any ys1 [a] A1 (some ⟨w4.heap.size,0,none⟩) N1 1 c1 1 _ NA.out (IRow.ints (zs := [(a:Int)]) BA.out) (by omega) (by omega) hcap (by omega) ⟨by omega,by omega,trivial⟩).mono ?_
      rintro e w5 ⟨v5,ys5,rfl,h5,hb5⟩
      have N5:=hide (own_base (base' := w.heap.size) h5 (by simp; omega))
      have L5:=hide (own_below (L4.out.alloc _) hb5)
      have B5:=hide ((B4.out.alloc hs4 (.cells #[.int .i64 (a:Int)] 3)).trans (hb5.mono (by simp; omega)))
      clear h5 hb5 y0 y1 y2 y10 X4
      go_wp2_with fail
      go_roundg j
      case measure => omega
      case rel =>
       refine ⟨k1 + 1,ys5,ms ++ [⟨k',xt,yt,s',o'⟩],by have := HKG1.out; omega,by go_num,?_,?_,by rw [List.length_append,List.length_singleton,HML.out],?_⟩
       ·rw [← HN0.out]; exact N5.out
       ·rw [mvs_app]; exact L5.out
       ·exact B5.out
     by_cases k4':k = 4
     ·subst k4'
      obtain ⟨hN,hx0,hxy,hy1,hf⟩:=HST.out.2.2.2.2.1 rfl
      subst hN
      obtain ⟨a,rfl⟩:=Int.eq_ofNat_of_zero_le hx0
      obtain ⟨b,rfl⟩:=Int.eq_ofNat_of_zero_le (show (0:Int) ≤ y by have h1:(a:Int) < y := hxy; omega)
      have hab:a < b:=by have:(a:Int) < (b:Int) := hxy; omega
      have hbN:b < N1 + 2:=by have:(b:Int) < ((N1 + 2:Nat):Int) := hy1; omega
      have NA:=hide (own_ints' (N4.out.alloc (.cells #[.int .i64 (a:Int),.int .i64 (b:Int)] 3)))
      have BA:=hide (row_at (W := w4) (g := w4.heap.size) (t := 3) (vs := [.int .i64 (a:Int),.int .i64 (b:Int)]) rfl)
      have hcap:N1 ≤ c1:=own_cap N4.out
      have hff:f = (a:Int) ∨ f = (b:Int):=hf
      have X5a:=hide (X4.out.alloc (.cells #[.int .i64 (a:Int),.int .i64 (b:Int)] 3))
      clear hf
      go_wp2_with fail
      refine (add_any ys1 [a,b] A1 (some ⟨w4.heap.size,0,none⟩) N1 2 c1 2 _ NA.out (IRow.ints (zs := [(a:Int),(b:Int)]) BA.out) (by omega) (by omega) hcap (by omega) ⟨by omega,by omega,by omega,by omega,trivial⟩).mono ?_
      rintro e w5 ⟨v5,ys5,rfl,h5,hb5⟩
      have N5:=hide (own_base (base' := w.heap.size) h5 (by simp; omega))
      have L5:=hide (own_below (L4.out.alloc _) hb5)
      have B5:=hide ((B4.out.alloc hs4 (.cells #[.int .i64 (a:Int),.int .i64 (b:Int)] 3)).trans (hb5.mono (by simp; omega)))
      have X5:=hide (X5a.out.below hb5)
      clear h5 hb5 y0 y1 y2 y10 X4 X5a
      obtain ⟨g6,cap6,rfl,_,_⟩:=World.ownsRow.form N5.out (Nat.succ_pos (N1 + 1))
      have y10:w5.cell? ⟨gb,10,none⟩ = some (.int .i64 f):=X5.out.cell (i := 10) (by simp)
      obtain ⟨p,q,hp,hq,hpq,hfp,hoq⟩:∃ p q:Nat,p < N1 + 2 ∧ q < N1 + 2 ∧ p ≠ q ∧ f = (p:Int) ∧ (a:Int) + (b:Int) - f = (q:Int) := by
       rcases hff with h | h
       ·exact ⟨a,b,by omega,hbN,by omega,h,by omega⟩
       ·exact ⟨b,a,hbN,by omega,by omega,h,by omega⟩
      have hg6:w.heap.size ≤ g6:=(N5.out.lt g6 rfl).1
      have hyl:ys5.length = N1 + 2:=by have := N5.out.1; simpa using this
      have cell5:∀ j,j < N1 + 2 → ∃ z:Int,w5.cell? ⟨g6,j,none⟩ = some (.int .i64 z):=fun j hj => by
       have c:=World.ownsRow.cellAt N5.out j (by omega)
       rw [List.getElem?_map,List.getElem?_eq_getElem (by omega)] at c
       exact ⟨_,c⟩
      obtain ⟨zp,cp⟩:=cell5 p hp
      obtain ⟨zq,cq⟩:=cell5 q hq
      have f6:∀ j,w5.frozen? ⟨g6,j,none⟩ = false:=fun j => World.ownsRow.frozenAt N5.out j
      have hqp:q ≠ p:=Ne.symm hpq
      have hpi:(p:Int) < (N1:Int) + 2:=by omega
      have hqi:(q:Int) < (N1:Int) + 2:=by omega
      have p0:(0:Int) ≤ (p:Int):=by omega
      have q0:(0:Int) ≤ (q:Int):=by omega
      subst hfp
      rw [hoq]
      clear cell5 hyl hoq hff
      go_wp2_with fail
      go_roundg j
      case measure => omega
      case rel =>
       refine ⟨k1 + 1,(ys5.set p (N1:Int)).set q ((N1:Int) + 2 - 1),ms ++ [⟨k',xt,yt,s',o'⟩],by have := HKG1.out; omega,by go_num,?_,?_,by rw [List.length_append,List.length_singleton,HML.out],?_⟩
       ·rw [← HN0.out,List.map_set,List.map_set]; exact (World.ownsRow.stored (World.ownsRow.stored N5.out p _).1 q _).1
       ·rw [mvs_app]; exact World.ownsRow.kept L5.out (grownBy_trans (World.ownsRow.stored N5.out p _).2 (World.ownsRow.stored (World.ownsRow.stored N5.out p _).1 q _).2) (own_neI L5.out N5.out (by decide))
       ·exact (B5.out.setCell (show w.heap.size ≤ g6 from hg6) _).setCell (show w.heap.size ≤ g6 from hg6) _
     ·have hN:N1 = N0:=HST.out.2.2.2.2.2 k1' k2' k3' k4'
      subst hN
      have q1:(k == 1) = false:=by rw [beq_eq_false_iff_ne]; exact k1'
      have q2:(k == 2) = false:=by rw [beq_eq_false_iff_ne]; exact k2'
      have q3:(k == 3) = false:=by rw [beq_eq_false_iff_ne]; exact k3'
      have q4:(k == 4) = false:=by rw [beq_eq_false_iff_ne]; exact k4'
      go_wp2_with fail
      go_roundg j
      case measure => omega
      case rel =>
       refine ⟨k1 + 1,ys1,ms ++ [⟨k',xt,yt,s',o'⟩],by have := HKG1.out; omega,by go_num,?_,?_,by rw [List.length_append,List.length_singleton,HML.out],?_⟩
       ·rw [← HN0.out]; exact N4.out
       ·rw [mvs_app]; exact L4.out
       ·exact B4.out
    ·obtain rfl:gk = 0 := by omega
     have hkn:k1 = n:=by omega
     subst hkn
     go_wp2_with fail
     go_ret
     exact ⟨⟨B1,c7,ms,rfl,HLS.out⟩,HB1.out⟩
end Go.Proofs.YtghdiolnonejaaaGreatDoor
end
