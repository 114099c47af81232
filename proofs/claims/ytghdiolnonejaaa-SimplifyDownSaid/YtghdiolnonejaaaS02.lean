/-
 The texts Mem, Wa, Q, Row, Grow, Wd, We, Wf, Wg, Wh, Wb, Wc, Wj, Wo, Wi, Rq, Rr, Xn.
-/
import Derived.Test.YtghdiolnonejaaaS00
import Derived.ChangeSame
import Derived.ChangeSlices
import Derived.Deep.AppendLies
import Derived.Deep.CutBlock
import Derived.Deep.DeepCutAuto
import Derived.Deep.DrawnRows
import Derived.Deep.Fields
import Derived.Deep.Light
import Derived.Deep.LoopGhost
import Derived.Deep.RegionHeld3
import Derived.Deep.RegionLaw
import Derived.Deep.RegionWith
import Derived.Deep.Slices
import Derived.Deep.Strs
import Derived.Laws.AppendOwn
import Derived.Laws.MakeOwn
import Derived.Laws.OwnMore
import Derived.Laws.Rows
import Derived.Maps.AppendAt
import Derived.OpenShut
import Derived.Outline
import Derived.ProofKit
import Derived.RegionTactic
import Derived.Shelf.Spec.SlicesGrow
import Derived.StillTailTactics
import Derived.Test.YtghdiolnonejaaaRows
import Derived.Test.YtghdiolnonejaaaShelf
set_option linter.unusedVariables false
set_option linter.unusedSimpArgs false
section
namespace Go.Proofs.Ytghdiolnonejaaa
open Go.RowKit
theorem hide {p:Prop} (h:p):Hid p := h
theorem ret_bool {a b:Bool} (h:a = b):Ending.returned (.bool a) = Ending.returned (.bool b) := by rw [h]
theorem ret_int {k:IntKind} {a b:Int} (h:a = b):Ending.returned (.int k a) = Ending.returned (.int k b) := by rw [h]
theorem lt_of_cell {w:World} {p:Addr} {v:Value} (h:w.cell? p = some v):p.block < w.heap.size := by
 rcases Nat.lt_or_ge p.block w.heap.size with h1 | h1
 ·exact h1
 ·unfold World.cell? at h
  rw [Array.getElem?_eq_none h1] at h
  cases h
theorem cell_below {w w':World} {p:Addr} {v:Value} (h:w.cell? p = some v) (hb:Below w.heap.size w w'):w'.cell? p = some v :=
 (hb.cell (lt_of_cell h)).trans h
def RowAt (w:World) (A:Option Addr) (n:Nat) (xs:List Value):Prop :=
 xs.length = n ∧ (0 < n → ∃ b o,A = some ⟨b,o,none⟩ ∧ ∀ (j:Nat) u,xs[j]? = some u → w.cell? ⟨b,o + j,none⟩ = some u)
theorem RowAt.nil (w:World):RowAt w none 0 [] := ⟨rfl,fun h => absurd h (by omega)⟩
theorem RowAt.keep {w w':World} {A:Option Addr} {n:Nat} {xs:List Value} (h:RowAt w A n xs) (hb:Below w.heap.size w w'):RowAt w' A n xs :=
 ⟨h.1,fun hn => let ⟨b,o,e,hc⟩:=h.2 hn; ⟨b,o,e,fun j u hu => cell_below (hc j u hu) hb⟩⟩
theorem RowAt.at_ {w:World} {A:Option Addr} {n k:Nat} {xs:List Value} (h:RowAt w A n xs) (hk:k < n) :
 ∃ b o,A = some ⟨b,o,none⟩ ∧ w.cell? ⟨b,o + k,none⟩ = some (xs[k]'(by have := h.1; omega)) := by
 obtain ⟨b,o,e,hc⟩:=h.2 (by omega)
 have:=h.1
 exact ⟨b,o,e,hc k _ (List.getElem?_eq_getElem (by omega))⟩
def RowT (w:World) (t:TypeId) (A:Option Addr) (n:Nat) (xs:List Value):Prop :=
 xs.length = n ∧ (0 < n → ∃ b o cs fr,A = some ⟨b,o,none⟩ ∧ w.heap[b]? = some (.cells cs t fr) ∧ ∀ (j:Nat) u,xs[j]? = some u → cs[o + j]? = some u)
theorem RowT.row {w:World} {t:TypeId} {A:Option Addr} {n:Nat} {xs:List Value} (h:RowT w t A n xs):RowAt w A n xs :=
 ⟨h.1,fun hn => let ⟨b,o,cs,fr,e,hb,hc⟩:=h.2 hn; ⟨b,o,e,fun j u hu => by rw [cell_of_row w b _ cs t fr hb]; exact hc j u hu⟩⟩
theorem RowT.keep {w w':World} {t:TypeId} {A:Option Addr} {n:Nat} {xs:List Value} (h:RowT w t A n xs) (hb:Below w.heap.size w w'):RowT w' t A n xs :=
 ⟨h.1, fun hn => let ⟨b, o, cs, fr, e, hg, hc⟩ := h.2 hn; ⟨b, o, cs, fr, e, (hb.block b (by
   rcases Nat.lt_or_ge b w.heap.size with h1 | h1
   ·exact h1
   ·rw [Array.getElem?_eq_none h1] at hg; cases hg)).trans hg,hc⟩⟩
theorem RowT.grown {w w':World} {t t':TypeId} {A:Option Addr} {n:Nat} {xs:List Value} {row:Option Nat} (h:RowT w t A n xs) (hg:w.grownBy w' row) (hr:∀ g,row = some g → ∃ cs fr,w.heap[g]? = some (.cells cs t' fr)) (hne:t ≠ t'):RowT w' t A n xs :=
 ⟨h.1, fun hn => let ⟨b, o, cs, fr, e, hb, hc⟩ := h.2 hn; ⟨b, o, cs, fr, e, (hg.block b (by
   rcases Nat.lt_or_ge b w.heap.size with h1 | h1
   ·exact h1
   ·rw [Array.getElem?_eq_none h1] at hb; cases hb) (fun he => by
    obtain ⟨cs',fr',h3⟩:=hr b he.symm
    rw [hb] at h3
    injection h3 with h3
    injection h3 with _ h4
    exact hne h4)).trans hb,hc⟩⟩
theorem ownsRow_block {w:World} {base:Nat} {e:TypeId} {size:Nat} {v:Value} {n:Nat} {xs:List Value} (h:w.ownsRow base e size v n xs):∀ g,v.ownBlock = some g → ∃ cs fr,w.heap[g]? = some (.cells cs e fr) := by
 intro g hg
 rcases h.2 with ⟨rfl,_⟩ | ⟨g',cap,cur,rfl,_,h3,_⟩
 ·simp [Value.ownBlock] at hg
 ·simp [Value.ownBlock] at hg
  subst hg
  exact ⟨_,_,h3⟩
def IntsAt (w:World) (A:Option Addr) (n:Nat) (zs:List Int):Prop := RowAt w A n (zs.map (.int .i64))
theorem IntsAt.keep {w w':World} {A:Option Addr} {n:Nat} {zs:List Int} (h:IntsAt w A n zs) (hb:Below w.heap.size w w'):IntsAt w' A n zs := RowAt.keep h hb
theorem IntsAt.len {w:World} {A:Option Addr} {n:Nat} {zs:List Int} (h:IntsAt w A n zs):zs.length = n := by have := h.1; simpa using this
theorem IntsAt.at_ {w:World} {A:Option Addr} {n k:Nat} {zs:List Int} (h:IntsAt w A n zs) (hk:k < n) :
 ∃ b o,A = some ⟨b,o,none⟩ ∧ w.cell? ⟨b,o + k,none⟩ = some (.int .i64 (zs.getD k 0)) := by
 obtain ⟨b,o,e,hc⟩:=RowAt.at_ h hk
 refine ⟨b,o,e,hc.trans ?_⟩
 have:=h.len
 rw [List.getElem_map,List.getD_eq_getElem?_getD,List.getElem?_eq_getElem (by omega)]; rfl
def nats (l:List Nat):List Int := l.map (fun m:Nat => (m:Int))
structure DgAt (w:World) (A:Option Addr) (B:Option Addr) (d:Pl.Dg):Prop where
 s:IntsAt w A d.n d.sg
 m:IntsAt w B (4 * d.n) (nats d.mt)
theorem DgAt.keep {w w':World} {A B:Option Addr} {d:Pl.Dg} (h:DgAt w A B d) (hb:Below w.heap.size w w'):DgAt w' A B d := ⟨h.s.keep hb,h.m.keep hb⟩
theorem sign_at {w:World} {A:Option Addr} {d:Pl.Dg} (h:IntsAt w A d.n d.sg) {c:Nat} (hc:c < d.n) :
 ∃ b o,A = some ⟨b,o,none⟩ ∧ w.cell? ⟨b,o + c,none⟩ = some (.int .i64 (d.s c)) := h.at_ hc
theorem mate_at {w:World} {B:Option Addr} {d:Pl.Dg} (h:IntsAt w B (4 * d.n) (nats d.mt)) {k:Nat} (hk:k < 4 * d.n) :
 ∃ b o,B = some ⟨b,o,none⟩ ∧ w.cell? ⟨b,o + k,none⟩ = some (.int .i64 (d.m k:Nat)) := by
 obtain ⟨b,o,e,hc⟩:=h.at_ hk
 refine ⟨b,o,e,hc.trans ?_⟩
 have hl:=h.len
 unfold nats at hl
 rw [List.length_map] at hl
 unfold nats Pl.Dg.m
 rw [List.getD_eq_getElem?_getD,List.getD_eq_getElem?_getD,List.getElem?_map,List.getElem?_eq_getElem (by omega)]; rfl
end Go.Proofs.Ytghdiolnonejaaa
end
section
namespace Go.Proofs.Ytghdiolnonejaaa
open Go.RowKit
theorem turn_back (h:Nat) (w:World) (hh:h ≤ 1000000) :
 Calls Try.prog 77 #[.int .i64 (h:Int),.int .i64 (-1)] w fun e w' => e = .returned (.int .i64 (Pl.tn h 3:Nat)) ∧ w = w' := by
 go_enter Try.func77,Try.ntmps77
 go_wp2
 go_ret
 exact ⟨ret_int (by unfold Pl.tn; omega),rfl⟩
theorem turn_opp (h:Nat) (w:World) (hh:h ≤ 1000000) :
 Calls Try.prog 77 #[.int .i64 (h:Int),.int .i64 2] w fun e w' => e = .returned (.int .i64 (Pl.tn h 2:Nat)) ∧ w = w' := by
 go_enter Try.func77,Try.ntmps77
 go_wp2
 go_ret
 exact ⟨ret_int (by unfold Pl.tn; omega),rfl⟩
theorem opposite_any (h:Nat) (w:World) (hh:h ≤ 1000000) :
 Calls Try.prog 100 #[.int .i64 (h:Int)] w fun e w' => e = .returned (.int .i64 (Pl.tn h 2:Nat)) ∧ w = w' := by
 go_enter Try.func100,Try.ntmps100
 go_wp2_with fail
 refine (turn_opp h _ hh).mono ?_
 rintro e w1 ⟨rfl,rfl⟩
 go_wp2
 go_ret
 exact ⟨rfl,rfl⟩
theorem out_zero {d:Pl.Dg} {h:Nat} (e:h % 4 = 0):Pl.out d h = false := by unfold Pl.out; simp [e]
theorem out_one {d:Pl.Dg} {h:Nat} (e:h % 4 = 1):Pl.out d h = (d.s (h / 4) == 1) := by unfold Pl.out; simp [e]
theorem out_two {d:Pl.Dg} {h:Nat} (e:h % 4 = 2):Pl.out d h = true := by unfold Pl.out; simp [e]
theorem out_three {d:Pl.Dg} {h:Nat} (e:h % 4 = 3):Pl.out d h = (d.s (h / 4) == -1) := by unfold Pl.out; simp [e]
theorem out_any (d:Pl.Dg) (A B:Option Addr) (cp q cq:Nat) (l:Value) (h:Nat) (w:World) (hh:h < 4 * d.n) (hn:d.n ≤ 1000) (hs:IntsAt w A d.n d.sg) :
 Calls Try.prog 46 #[.agg #[.slice A d.n cp,.slice B q cq,l],.int .i64 (h:Int)] w fun e w' => e = .returned (.bool (Pl.out d h)) ∧ Below w.heap.size w w' := by
 obtain ⟨b,o,rfl,hc⟩:=sign_at hs (c := h / 4) (by omega)
 have hb:Below w.heap.size w (w.alloc (.cells #[.slice (some ⟨b,o,none⟩) d.n cp,.slice B q cq,l] 24)):=(Below.refl _ _).alloc (Nat.le_refl _) _
 have hc2:=cell_below hc hb
 go_enter Try.func46,Try.ntmps46
 go_wp2
 all_goals
  go_ret
  refine ⟨ret_bool ?_,hb⟩
  simp only [beq_iff_eq,beq_eq_false_iff_ne,ne_eq] at *
 ·rw [out_one (by omega)]
 ·rw [out_two (by omega)]
 ·rw [out_three (by omega)]
 ·rw [out_zero (by omega)]
theorem out_n (d:Pl.Dg) (A B:Option Addr) (n cp q cq:Nat) (l:Value) (h:Nat) (w:World) (e:n = d.n) (hh:h < 4 * n) (hn:n ≤ 1000) (hs:IntsAt w A n d.sg) :
 Calls Try.prog 46 #[.agg #[.slice A n cp,.slice B q cq,l],.int .i64 (h:Int)] w fun e w' => e = .returned (.bool (Pl.out d h)) ∧ Below w.heap.size w w' := by
 subst e; exact out_any d A B cp q cq l h w hh hn hs
theorem out2_any (d:Pl.Dg) (A B:Option Addr) (cp q cq:Nat) (l:Value) (h:Nat) (w:World) (hh:h < 4 * d.n) (hn:d.n ≤ 1000) (hs:IntsAt w A d.n d.sg) :
 Calls Try.prog 129 #[.agg #[.slice A d.n cp,.slice B q cq,l],.int .i64 (h:Int)] w fun e w' => e = .returned (.bool (Pl.out d h)) ∧ Below w.heap.size w w' := by
 obtain ⟨b,o,rfl,hc⟩:=sign_at hs (c := h / 4) (by omega)
 have hb:Below w.heap.size w (w.alloc (.cells #[.slice (some ⟨b,o,none⟩) d.n cp,.slice B q cq,l] 24)):=(Below.refl _ _).alloc (Nat.le_refl _) _
 have hc2:=cell_below hc hb
 go_enter Try.func129,Try.ntmps129
 go_wp2
 all_goals
  go_ret
  refine ⟨ret_bool ?_,hb⟩
 ·rw [out_two (by omega)]
 ·rename_i e1
  rw [out_one (by omega)]; try simp [e1]
 ·rename_i e1
  rw [out_one (by omega)]; try simp [e1]
 ·rw [out_three (by omega)]
 ·rw [out_zero (by omega)]; simp; omega
theorem out2_n (d:Pl.Dg) (A B:Option Addr) (n cp q cq:Nat) (l:Value) (h:Nat) (w:World) (e:n = d.n) (hh:h < 4 * n) (hn:n ≤ 1000) (hs:IntsAt w A n d.sg) :
 Calls Try.prog 129 #[.agg #[.slice A n cp,.slice B q cq,l],.int .i64 (h:Int)] w fun e w' => e = .returned (.bool (Pl.out d h)) ∧ Below w.heap.size w w' := by
 subst e; exact out2_any d A B cp q cq l h w hh hn hs
theorem next_any (d:Pl.Dg) (B:Option Addr) (cq:Nat) (h:Nat) (w:World) (hh:h < 4 * d.n) (hn:d.n ≤ 1000) (hm:IntsAt w B (4 * d.n) (nats d.mt)) (hlt:d.m h < 4 * d.n) :
 Calls Try.prog 96 #[.slice B (4 * d.n) cq,.int .i64 (h:Int)] w fun e w' => e = .returned (.int .i64 (Pl.nx d h:Nat)) ∧ w = w' := by
 obtain ⟨b,o,rfl,hc⟩:=mate_at hm hh
 go_enter Try.func96,Try.ntmps96
 go_wp2_with fail
 refine (turn_back _ _ (by omega)).mono ?_
 rintro e w1 ⟨rfl,rfl⟩
 go_wp2
 go_ret
 exact ⟨rfl,rfl⟩
end Go.Proofs.Ytghdiolnonejaaa
end
section
namespace Go.Proofs.Ytghdiolnonejaaa
open Go Go.RowKit
def OwnT (w:World) (base:Nat) (e:TypeId) (v:Value) (n:Nat) (xs:List Value):Prop :=
 xs.length = n ∧ ∃ g off cap cur,v = .slice (some ⟨g,off,none⟩) n cap ∧ base ≤ g ∧ w.heap[g]? = some (.cells cur e (0,0)) ∧ n ≤ cap ∧ cap ≤ maxLen ∧ off + cap ≤ cur.size ∧ (cur.toList.drop off).take n = xs
theorem lt_of_heap {w:World} {g:Nat} {o:Obj} (h:w.heap[g]? = some o):g < w.heap.size := by
 rcases Nat.lt_or_ge g w.heap.size with h1 | h1
 ·exact h1
 ·rw [Array.getElem?_eq_none h1] at h; cases h
theorem OwnT.keep {w w':World} {base:Nat} {e:TypeId} {v:Value} {n:Nat} {xs:List Value} (h:OwnT w base e v n xs) (hb:∀ g,base ≤ g → g < w.heap.size → v.ownBlock = some g → w'.heap[g]? = w.heap[g]?):OwnT w' base e v n xs := by
 obtain ⟨h0,g,off,cap,cur,rfl,h1,h2,h3⟩:=h
 exact ⟨h0,g,off,cap,cur,rfl,h1,(hb g h1 (lt_of_heap h2) rfl).trans h2,h3⟩
theorem OwnT.below {w w':World} {base:Nat} {e:TypeId} {v:Value} {n:Nat} {xs:List Value} (h:OwnT w base e v n xs) (hb:Below w.heap.size w w'):OwnT w' base e v n xs :=
 h.keep fun g _ h2 _ => hb.block g h2
theorem OwnT.cells {w:World} {base:Nat} {e:TypeId} {v:Value} {n:Nat} {xs:List Value} (h:OwnT w base e v n xs):∃ g off cap,v = .slice (some ⟨g,off,none⟩) n cap ∧ base ≤ g ∧ g < w.heap.size ∧ n ≤ cap ∧ cap ≤ maxLen ∧ ∀ (j:Nat) u,xs[j]? = some u → w.cell? ⟨g,off + j,none⟩ = some u := by
 obtain ⟨h0,g,off,cap,cur,rfl,h1,h2,h3,h4,h5,h6⟩:=h
 refine ⟨g,off,cap,rfl,h1,lt_of_heap h2,h3,h4,fun j u hu => ?_⟩
 rw [cell_of_row w g _ cur e (0,0) h2]
 rw [← h6,List.getElem?_take] at hu
 split at hu
 ·rw [List.getElem?_drop] at hu
  rw [← Array.getElem?_toList]; exact hu
 ·cases hu
theorem OwnT.tail0 {w:World} {base:Nat} {e:TypeId} {g off n cap:Nat} {x:Value} {xs:List Value} (h:OwnT w base e (.slice (some ⟨g,off,none⟩) (n + 1) cap) (n + 1) (x :: xs)) (hc:cap = 1):OwnT w base e (.slice (some ⟨g,off,none⟩) n (cap - 1)) n xs := by
 obtain ⟨h0,g',off',cap',cur,e1,h1,h2,h3,h4,h5,h6⟩:=h
 injection e1 with e1 _ e2
 injection e1 with e1
 injection e1 with e3 e4
 subst e2; subst e3; subst e4
 have hl:xs.length = n:=by simpa using h0
 obtain rfl:n = 0 := by omega
 exact ⟨hl,g,off,cap - 1,cur,rfl,h1,h2,by omega,by omega,by omega,by rw [List.take_zero]; exact (List.eq_nil_of_length_eq_zero hl).symm⟩
theorem OwnT.tail {w:World} {base:Nat} {e:TypeId} {g off n cap:Nat} {x:Value} {xs:List Value} (h:OwnT w base e (.slice (some ⟨g,off,none⟩) (n + 1) cap) (n + 1) (x :: xs)):OwnT w base e (.slice (some ⟨g,off + 1,none⟩) n (cap - 1)) n xs := by
 obtain ⟨h0,g',off',cap',cur,e1,h1,h2,h3,h4,h5,h6⟩:=h
 injection e1 with e1 _ e2
 injection e1 with e1
 injection e1 with e3 e4
 subst e2; subst e3; subst e4
 have hl:xs.length = n:=by simpa using h0
 refine ⟨hl,g,off + 1,cap - 1,cur,rfl,h1,h2,by omega,by omega,by omega,?_⟩
 have e5:cur.toList.drop off = (cur.toList.drop off).head?.getD x :: cur.toList.drop (off + 1):=by
  have:cur.toList.drop off ≠ []:=by
   intro e; rw [e] at h6; simp at h6
  rw [List.drop_eq_getElem_cons (by simp; omega)]
  simp
 rw [e5,List.take_succ_cons] at h6
 injection h6
section
variable {P:Program} (w:World)
theorem run_append_tail (base:Nat) (t ty e:TypeId) (i:TypeInfo) (z:Value) (bytes:Nat) (ht:P.underlying t = some (.slice e)) (hi:P.info? e = some i) (hz:i.zero = some z)
 (hsize:i.size = 1) (hby:i.bytes = bytes) (hzs:z.cells.size = 1)
 (v:Value) (n:Nat) (xs:List Value) (hown:OwnT w base e v n xs)
 (a:Addr) (c:Nat) (x:Value) (hnews:w.cell? (a.add 0) = some x) (h1:x.oneCell' = true)
 (h63:n + 1 ≤ maxLen) (hbytes:(n + 1) * bytes ≤ 140737488355328) (hbase:base ≤ w.heap.size) :
 ∃ v' w',(Builtin.append_ #[t,t] ty #[v,.slice (some a) 1 c]).run P w = .ok v' w' ∧ OwnT w' base e v' (n + 1) (xs ++ [x]) ∧ w.grownBy w' v.ownBlock := by
 subst hby
 have hsmall:n + 1 ≤ 9223372036854775807:=by simp only [maxLen] at h63; omega
 have hlen:(xs ++ [x]).length = n + 1:=by rw [List.length_append,hown.1]; rfl
 have hn1:∀ (j:Nat) u,[x][j]? = some u → w.cell? (a.add j) = some u:=by
  intro j u hu
  match j,hu with
  | 0,hu => simp at hu; subst hu; exact hnews
 obtain ⟨h0,g,off,cap,cur,rfl,hbg,hg,hnc,hcm,hcs,htake⟩:=hown
 by_cases hroom:n + 1 ≤ cap
 ·have hf:=run_firstCells_some (P := P) w i.size 1 a 1 c [x] (by rw [hsize]; rfl) hn1
  have hst:=run_storeCells_at P g (off + n) e [x] 0 cur w hg (by simp; omega) (by simpa using h1)
  simp only [Nat.add_zero] at hst
  rw [hsize] at hf
  have hr:(Builtin.append_ #[t,t] ty #[.slice (some ⟨g,off,none⟩) n cap,.slice (some a) 1 c]).run P w = .ok (.slice (some ⟨g,off,none⟩) (n + 1) cap) (w.setRow g (cur.toList.take (off + n) ++ [x] ++ cur.toList.drop (off + n + [x].length)).toArray):=by
   simp only [List.length_singleton] at hst ⊢
   simp [Builtin.append_,run_underlying ht,sizeOf,typeInfo,hi,hsize,Builtin.lenOf,hroom,hf,Addr.add_lit,hst]
  refine ⟨_,_,hr,⟨hlen,g,off,cap,_,rfl,hbg,setRow_heap w g cur _ e _ hg,hroom,hcm,?_,?_⟩,⟨rfl,rfl,rfl,by simp,fun k _ hk => setRow_other w g k _ (fun e => hk (by simp [Value.ownBlock,e]))⟩⟩
  ·simp only [List.size_toArray,List.length_append,List.length_take,List.length_drop,Array.length_toList,List.length_cons,List.length_nil]
   omega
  ·have e1 : cur.toList.take (off + n) = cur.toList.take off ++ xs := by
    rw [← htake,List.take_add]
   rw [e1]
   simp only [List.append_assoc]
   have e2:(cur.toList.take off).length = off:=by rw [List.length_take,Array.length_toList]; omega
   rw [List.drop_append,e2,Nat.sub_self,List.drop_zero,List.drop_eq_nil_of_le (by omega),List.nil_append,← List.append_assoc,← hlen,List.take_left]
 ·have holds : ∀ (j : Nat) u, xs[j]? = some u → w.cell? ((⟨g, off, none⟩ : Addr).add j) = some u := by
   intro j u hu
   have:(⟨g,off,none⟩:Addr).add j = ⟨g,off + j,none⟩:=by unfold Addr.add; split <;> simp_all
   rw [this,cell_of_row w g _ cur e (0,0) hg]
   rw [← htake,List.getElem?_take] at hu
   split at hu
   ·rw [List.getElem?_drop] at hu
    rw [← Array.getElem?_toList]; exact hu
   ·cases hu
  have hr:=run_append_grow (P := P) w t ty e i z ht hi hz ⟨g,off,none⟩ n cap xs (by rw [hsize,h0]; omega) holds a 1 c [x] (by rw [hsize]; rfl) hn1 (by omega) (by omega) (growslice_fits (by omega) hbytes)
  have hge:=grownCap_ge w (n + 1) cap e
  have hcm':grownCap w (n + 1) cap e ≤ maxLen:=grownCap_le_maxLen w (n + 1) cap e h63
  refine ⟨_,_,hr,⟨hlen,w.heap.size,0,_,_,rfl,hbase,heap_alloc_new w.drew _,hge,hcm',?_,?_⟩,⟨rfl,rfl,rfl,by simp,fun k hk _ => Below.heap_alloc w.drew _ k hk⟩⟩
  ·simp only [Array.size_append,List.size_toArray,size_zeroCells,hzs,h0,List.length_cons,List.length_nil]
   omega
  ·simp only [Array.toList_append,List.drop_zero]
   rw [← hlen]
   exact List.take_left
theorem wp_append_tail {o:Oper} {a:Act} {K:Act → World → Prop} {Q:Exit → Act → World → Prop} (s x:Operand) (t:TypeId)
 (ho:o.op = .call { callee := .builtin .append,args := #[s,x],argTypes := #[t,t] })
 (base:Nat) (e:TypeId) (i:TypeInfo) (z:Value) (bytes:Nat) (ht:P.underlying t = some (.slice e)) (hi:P.info? e = some i) (hz:i.zero = some z)
 (hsize:i.size = 1) (hby:i.bytes = bytes) (hzs:z.cells.size = 1)
 (v:Value) (n:Nat) (xs:List Value) (hs:a.eval s = v) (hown:OwnT w base e v n xs)
 (ad:Addr) (c:Nat) (u:Value) (hx:a.eval x = .slice (some ad) 1 c) (hnews:w.cell? (ad.add 0) = some u) (h1:u.oneCell' = true)
 (h63:n + 1 ≤ maxLen) (hbytes:(n + 1) * bytes ≤ 140737488355328) (hbase:base ≤ w.heap.size)
 (h:∀ v' w',OwnT w' base e v' (n + 1) (xs ++ [u]) → w.grownBy w' v.ownBlock → K (a.put o.dst v') w'):o.wp P a w K Q := by
 obtain ⟨v',w',hr,h2,h3⟩:=run_append_tail (P := P) w base t o.type e i z bytes ht hi hz hsize hby hzs v n xs hown ad c u hnews h1 h63 hbytes hbase
 unfold Oper.wp execOp
 simp only [ho,resolve,invoke,builtin,Sem.run_bind,Sem.run_pure,Result.andThen_ok,List.map_toArray,List.map_cons,List.map_nil,hs,hx,hr]
 exact h v' w' h2 h3
theorem wpList_append_tail {ops:Array Oper} {rest:List Oper} {o:Oper} {a:Act} {Q:Exit → Act → World → Prop} (hgd:o.guard = none) (s x:Operand) (t:TypeId)
 (ho:o.op = .call { callee := .builtin .append,args := #[s,x],argTypes := #[t,t] })
 (base:Nat) (e:TypeId) (i:TypeInfo) (z:Value) (bytes:Nat) (ht:P.underlying t = some (.slice e)) (hi:P.info? e = some i) (hz:i.zero = some z)
 (hsize:i.size = 1) (hby:i.bytes = bytes) (hzs:z.cells.size = 1)
 (v:Value) (n:Nat) (xs:List Value) (hs:a.eval s = v) (hown:OwnT w base e v n xs)
 (ad:Addr) (c:Nat) (u:Value) (hx:a.eval x = .slice (some ad) 1 c) (hnews:w.cell? (ad.add 0) = some u) (h1:u.oneCell' = true)
 (h63:n + 1 ≤ maxLen) (hbytes:(n + 1) * bytes ≤ 140737488355328) (hbase:base ≤ w.heap.size)
 (h:∀ v' w',OwnT w' base e v' (n + 1) (xs ++ [u]) → w.grownBy w' v.ownBlock → wpList P ops Q rest (a.put o.dst v') w'):wpList P ops Q (o :: rest) a w :=
 wpList_plain hgd fun _ hK => wp_append_tail w s x t ho base e i z bytes ht hi hz hsize hby hzs v n xs hs hown ad c u hx hnews h1 h63 hbytes hbase fun v' w' h2 h3 => hK _ _ (h v' w' h2 h3)
end
end Go.Proofs.Ytghdiolnonejaaa
end
section
namespace Go.Proofs.Ytghdiolnonejaaa
open Go Go.RowKit
def Row (w:World) (g:Nat) (t:TypeId) (vs:List Value):Prop := w.heap[g]? = some (.cells vs.toArray t (0,0))
theorem Row.lt {w:World} {g:Nat} {t:TypeId} {vs:List Value} (h:Row w g t vs):g < w.heap.size := lt_of_heap h
theorem Row.cell {w:World} {g:Nat} {t:TypeId} {vs:List Value} (h:Row w g t vs) {i:Nat} (hi:i < vs.length):w.cell? ⟨g,i,none⟩ = some (vs[i]'hi) := by
 rw [cell_of_row w g i _ t (0,0) h]; simp [hi]
theorem Row.free {w:World} {g:Nat} {t:TypeId} {vs:List Value} (h:Row w g t vs) (i:Nat):w.frozen? ⟨g,i,none⟩ = false := frozen_of_row w g i _ t h
theorem Row.set {w:World} {g:Nat} {t:TypeId} {vs:List Value} (h:Row w g t vs) (i:Nat) (v:Value):Row (w.setCell ⟨g,i,none⟩ v) g t (vs.set i v) := by
 unfold Row
 rw [Go.heap_setCell_same w g i _ t v h]
 simp
theorem Row.other {w:World} {g:Nat} {t:TypeId} {vs:List Value} (h:Row w g t vs) {a:Addr} (ha:g ≠ a.block) (v:Value):Row (w.setCell a v) g t vs := (Below.heap_setCell w a v g ha).trans h
theorem Row.alloc {w:World} {g:Nat} {t:TypeId} {vs:List Value} (h:Row w g t vs) (o:Obj):Row (w.alloc o) g t vs := (Below.heap_alloc w o g h.lt).trans h
theorem Row.drew {w:World} {g:Nat} {t:TypeId} {vs:List Value} (h:Row w g t vs):Row w.drew g t vs := h
theorem Row.below {w w':World} {g:Nat} {t:TypeId} {vs:List Value} (h:Row w g t vs) (hb:Below w.heap.size w w'):Row w' g t vs := (hb.block g h.lt).trans h
theorem Row.grown {w w':World} {g:Nat} {t:TypeId} {vs:List Value} {r:Option Nat} (h:Row w g t vs) (hg:w.grownBy w' r) (hr:some g ≠ r):Row w' g t vs := (hg.block g h.lt hr).trans h
theorem Row.new (w:World) (t:TypeId) (vs:List Value):Row (w.alloc (.cells vs.toArray t)) w.heap.size t vs := heap_alloc_new w _
def IRow (w:World) (g:Nat) (zs:List Int):Prop := Row w g 3 (zs.map (.int .i64))
theorem IRow.cell {w:World} {g:Nat} {zs:List Int} (h:IRow w g zs) {i:Nat} (hi:i < zs.length):w.cell? ⟨g,i,none⟩ = some (.int .i64 (Pl.pv zs i)) := by
 refine (Row.cell h (i := i) (by simpa using hi)).trans ?_
 unfold Pl.pv
 rw [List.getElem_map,List.getD_eq_getElem?_getD,List.getElem?_eq_getElem hi]; rfl
theorem IRow.set {w:World} {g:Nat} {zs:List Int} (h:IRow w g zs) (i:Nat) (v:Int):IRow (w.setCell ⟨g,i,none⟩ (.int .i64 v)) g (zs.set i v) := by
 unfold IRow
 rw [List.map_set]
 exact Row.set h i _
theorem IRow.ints {w:World} {g:Nat} {zs:List Int} (h:IRow w g zs):IntsAt w (some ⟨g,0,none⟩) zs.length zs := by
 refine ⟨by simp,fun _ => ⟨g,0,rfl,fun j u hu => ?_⟩⟩
 rw [Nat.zero_add]
 refine (cell_of_row w g j _ _ (0,0) h).trans ?_
 simpa using hu
def BRow (w:World) (g:Nat) (bs:List Bool):Prop := Row w g 4 (bs.map .bool)
theorem BRow.cell {w:World} {g:Nat} {bs:List Bool} (h:BRow w g bs) {i:Nat} (hi:i < bs.length):w.cell? ⟨g,i,none⟩ = some (.bool (bs.getD i false)) := by
 refine (Row.cell h (i := i) (by simpa using hi)).trans ?_
 rw [List.getElem_map,List.getD_eq_getElem?_getD,List.getElem?_eq_getElem hi]; rfl
theorem BRow.set {w:World} {g:Nat} {bs:List Bool} (h:BRow w g bs) (i:Nat) (v:Bool):BRow (w.setCell ⟨g,i,none⟩ (.bool v)) g (bs.set i v) := by
 unfold BRow
 rw [List.map_set]
 exact Row.set h i _
theorem made_rep (v:Value) (n:Nat):madeCells #[v] n = (List.replicate n v).toArray := by
 apply Array.ext'
 simp only [madeCells,Array.toList_map,Array.toList_range]
 refine List.ext_getElem (by simp) (fun i h1 h2 => ?_)
 have:i % 1 = 0:=Nat.mod_one i
 simp [this]
theorem IRow.made (w:World) (n:Nat):IRow (w.alloc (.cells (Array.replicate n (Value.int .i64 0)) 3)) w.heap.size (List.replicate n 0) := by
 unfold IRow Row
 rw [List.map_replicate]
 exact heap_alloc_new w _
theorem BRow.made (w:World) (n:Nat):BRow (w.alloc (.cells (Array.replicate n (Value.bool false)) 4)) w.heap.size (List.replicate n false) := by
 unfold BRow Row
 rw [List.map_replicate]
 exact heap_alloc_new w _
theorem intInfo:(Try.prog.info? 3).map (fun i => (i.zero,i.size,i.bytes)) = some (some (.int .i64 0),1,8) := by kernel_rfl
theorem boolInfo:(Try.prog.info? 4).map (fun i => (i.zero,i.size,i.bytes)) = some (some (.bool false),1,1) := by kernel_rfl
theorem run_ints (n:Nat) (hn:n ≤ 100000) (w:World):(Instr.makeSlice 22 (.int .i64 (n:Int)) (.int .i64 (n:Int))).run Try.prog w = .ok (.slice (some ⟨w.heap.size,0,none⟩) n n) (w.alloc (.cells (Array.replicate n (Value.int .i64 0)) 3)) := by
 obtain ⟨i0,hi,hz0,hz1,hz2⟩:=info_parts intInfo
 have:=run_make (P := Try.prog) w 22 3 i0 (.int .i64 0) Try.underlying22 hi hz0 .i64 .i64 n n (by omega) (Int.le_refl _) (by rw [hz2]; omega) (by omega)
 rw [hz1,Nat.mul_one,Int.toNat_natCast,show madeCells (Value.cells (.int .i64 0)) n = (List.replicate n (.int .i64 0)).toArray from made_rep _ _] at this
 exact this
theorem run_bools (n:Nat) (hn:n ≤ 100000) (w:World):(Instr.makeSlice 82 (.int .i64 (n:Int)) (.int .i64 (n:Int))).run Try.prog w = .ok (.slice (some ⟨w.heap.size,0,none⟩) n n) (w.alloc (.cells (Array.replicate n (Value.bool false)) 4)) := by
 obtain ⟨i0,hi,hz0,hz1,hz2⟩:=info_parts boolInfo
 have:=run_make (P := Try.prog) w 82 4 i0 (.bool false) Try.underlying82 hi hz0 .i64 .i64 n n (by omega) (Int.le_refl _) (by rw [hz2]; omega) (by omega)
 rw [hz1,Nat.mul_one,Int.toNat_natCast,show madeCells (Value.cells (.bool false)) n = (List.replicate n (.bool false)).toArray from made_rep _ _] at this
 exact this
end Go.Proofs.Ytghdiolnonejaaa
end
section
namespace Go.Proofs.Ytghdiolnonejaaa
open Go Go.RowKit
section
variable {P:Program} (w:World)
theorem run_append_ints (base:Nat) (t ty e:TypeId) (i:TypeInfo) (z:Value) (bytes:Nat) (ht:P.underlying t = some (.slice e)) (hi:P.info? e = some i) (hz:i.zero = some z)
 (hsize:i.size = 1) (hby:i.bytes = bytes) (hzs:z.cells.size = 1)
 (v:Value) (n:Nat) (xs:List Value) (hown:w.ownsRow base e 1 v n xs)
 (A:Option Addr) (m c:Nat) (zs:List Int) (hin:IntsAt w A m zs)
 (h63:n + m ≤ maxLen) (hbytes:(n + m) * bytes ≤ 140737488355328) (hbase:base ≤ w.heap.size) :
 ∃ v' w',(Builtin.append_ #[t,t] ty #[v,.slice A m c]).run P w = .ok v' w' ∧ w'.ownsRow base e 1 v' (n + m) (xs ++ zs.map (.int .i64)) ∧ w.grownBy w' v.ownBlock := by
 have hl:=hin.len
 rcases Nat.eq_zero_or_pos m with h0 | h0
 ·subst h0
  obtain rfl:zs = [] := List.eq_nil_of_length_eq_zero hl
  have hr:(Builtin.append_ #[t,t] ty #[v,.slice A 0 c]).run P w = .ok v w:=by
   rcases hown.2 with ⟨rfl,rfl⟩ | ⟨g,cap,cur,rfl,_,_,hnc,_⟩
   ·cases A <;> simp [Builtin.append_,run_underlying ht,sizeOf,typeInfo,hi,Builtin.lenOf,Builtin.firstCells,loadCells,loadCellsFrom]
   ·cases A <;> simp [Builtin.append_,run_underlying ht,sizeOf,typeInfo,hi,Builtin.lenOf,Builtin.firstCells,hnc,storeCells,loadCells,loadCellsFrom]
  refine ⟨v,w,hr,by simpa using hown,⟨rfl,rfl,rfl,Nat.le_refl _,fun _ _ _ => rfl⟩⟩
 ·obtain ⟨b,o,rfl,hc⟩:=hin.2 h0
  obtain ⟨v',w',hr,h2,h3,_⟩:=run_append_own (P := P) w base t ty e i z 1 bytes ht hi hz hsize hby hzs (by omega) v n xs hown ⟨b,o,none⟩ m c (zs.map (.int .i64)) (by rw [List.length_map,hl,Nat.mul_one]) (fun j u hu => by
   have:(⟨b,o,none⟩:Addr).add j = ⟨b,o + j,none⟩:=by unfold Addr.add; split <;> simp_all
   rw [this]; exact hc j u hu) (fun u hu => by
   obtain ⟨x,_,rfl⟩:=List.mem_map.1 hu; rfl) h63 hbytes hbase
  exact ⟨v',w',hr,h2,h3⟩
theorem wp_append_ints {o:Oper} {a:Act} {K:Act → World → Prop} {Q:Exit → Act → World → Prop} (s x:Operand) (t:TypeId)
 (ho:o.op = .call { callee := .builtin .append,args := #[s,x],argTypes := #[t,t] })
 (base:Nat) (e:TypeId) (i:TypeInfo) (z:Value) (bytes:Nat) (ht:P.underlying t = some (.slice e)) (hi:P.info? e = some i) (hz:i.zero = some z)
 (hsize:i.size = 1) (hby:i.bytes = bytes) (hzs:z.cells.size = 1)
 (v:Value) (n:Nat) (xs:List Value) (hs:a.eval s = v) (hown:w.ownsRow base e 1 v n xs)
 (A:Option Addr) (m c:Nat) (zs:List Int) (hx:a.eval x = .slice A m c) (hin:IntsAt w A m zs)
 (h63:n + m ≤ maxLen) (hbytes:(n + m) * bytes ≤ 140737488355328) (hbase:base ≤ w.heap.size)
 (h:∀ v' w',w'.ownsRow base e 1 v' (n + m) (xs ++ zs.map (.int .i64)) → w.grownBy w' v.ownBlock → K (a.put o.dst v') w'):o.wp P a w K Q := by
 obtain ⟨v',w',hr,h2,h3⟩:=run_append_ints (P := P) w base t o.type e i z bytes ht hi hz hsize hby hzs v n xs hown A m c zs hin h63 hbytes hbase
 unfold Oper.wp execOp
 simp only [ho,resolve,invoke,builtin,Sem.run_bind,Sem.run_pure,Result.andThen_ok,List.map_toArray,List.map_cons,List.map_nil,hs,hx,hr]
 exact h v' w' h2 h3
theorem wpList_append_ints {ops:Array Oper} {rest:List Oper} {o:Oper} {a:Act} {Q:Exit → Act → World → Prop} (hgd:o.guard = none) (s x:Operand) (t:TypeId)
 (ho:o.op = .call { callee := .builtin .append,args := #[s,x],argTypes := #[t,t] })
 (base:Nat) (e:TypeId) (i:TypeInfo) (z:Value) (bytes:Nat) (ht:P.underlying t = some (.slice e)) (hi:P.info? e = some i) (hz:i.zero = some z)
 (hsize:i.size = 1) (hby:i.bytes = bytes) (hzs:z.cells.size = 1)
 (v:Value) (n:Nat) (xs:List Value) (hs:a.eval s = v) (hown:w.ownsRow base e 1 v n xs)
 (A:Option Addr) (m c:Nat) (zs:List Int) (hx:a.eval x = .slice A m c) (hin:IntsAt w A m zs)
 (h63:n + m ≤ maxLen) (hbytes:(n + m) * bytes ≤ 140737488355328) (hbase:base ≤ w.heap.size)
 (h:∀ v' w',w'.ownsRow base e 1 v' (n + m) (xs ++ zs.map (.int .i64)) → w.grownBy w' v.ownBlock → wpList P ops Q rest (a.put o.dst v') w'):wpList P ops Q (o :: rest) a w :=
 wpList_plain hgd fun _ hK => wp_append_ints w s x t ho base e i z bytes ht hi hz hsize hby hzs v n xs hs hown A m c zs hx hin h63 hbytes hbase fun v' w' h2 h3 => hK _ _ (h v' w' h2 h3)
end
end Go.Proofs.Ytghdiolnonejaaa
end
section
namespace Go.Proofs.Ytghdiolnonejaaa
open Go.RowKit
theorem owns_slice {w:World} {base:Nat} {e:TypeId} {size:Nat} {v:Value} {n:Nat} {xs:List Value} (h:w.ownsRow base e size v n xs):∃ A c,v = .slice A n c := by
 rcases h.2 with ⟨rfl,rfl⟩ | ⟨g,cap,cur,rfl,_⟩
 ·exact ⟨_,_,rfl⟩
 ·exact ⟨_,_,rfl⟩
def OwnN (w:World) (base g n cap:Nat) (l:List Nat):Prop := w.ownsRow base 3 1 (.slice (some ⟨g,0,none⟩) n cap) n (l.map (fun k:Nat => Value.int .i64 k))
theorem OwnN.len {w:World} {base g n cap:Nat} {l:List Nat} (h:OwnN w base g n cap l):l.length = n := by have := h.1; simpa using this
theorem OwnN.cell {w:World} {base g n cap:Nat} {l:List Nat} (h:OwnN w base g n cap l) {k:Nat} (hk:k < n):w.cell? ⟨g,k,none⟩ = some (.int .i64 (l.getD k 0:Nat)) := by
 have hl:=h.len
 rw [World.ownsRow.cellAt h k (by omega),List.getElem?_map,List.getElem?_eq_getElem (by omega),List.getD_eq_getElem?_getD,List.getElem?_eq_getElem (by omega)]; rfl
theorem OwnN.free {w:World} {base g n cap:Nat} {l:List Nat} (h:OwnN w base g n cap l) (k:Nat):w.frozen? ⟨g,k,none⟩ = false := World.ownsRow.frozenAt h k
theorem OwnN.set {w:World} {base g n cap:Nat} {l:List Nat} (h:OwnN w base g n cap l) (k v:Nat):OwnN (w.setCell ⟨g,k,none⟩ (.int .i64 (v:Nat))) base g n cap (l.set k v) ∧ w.grownBy (w.setCell ⟨g,k,none⟩ (.int .i64 (v:Nat))) (some g) := by
 have:=World.ownsRow.stored h k (.int .i64 (v:Nat))
 refine ⟨?_,this.2⟩
 unfold OwnN
 rw [List.map_set]
 exact this.1
theorem grownBy_trans {w w1 w2:World} {r:Option Nat} (h:w.grownBy w1 r) (h2:w1.grownBy w2 r):w.grownBy w2 r :=
 ⟨h2.os.trans h.os,h2.tape.trans h.tape,h2.output.trans h.output,Nat.le_trans h.size h2.size,fun k hk hr => (h2.block k (Nat.lt_of_lt_of_le hk h.size) hr).trans (h.block k hk hr)⟩
def jn (l:List Nat) (a b:Nat):List Nat := (l.set a b).set b a
theorem join_any (base g n cap a b:Nat) (l:List Nat) (w:World) (h:OwnN w base g n cap l) (ha:a < n) (hb:b < n) (hn:n ≤ 100000) :
 Calls Try.prog 80 #[.slice (some ⟨g,0,none⟩) n cap,.int .i64 (a:Int),.int .i64 (b:Int)] w fun e w' => e = .returned (.tuple #[]) ∧ OwnN w' base g n cap (jn l a b) ∧ w.grownBy w' (some g) := by
 have c1:=h.cell ha
 have f1:=h.free a
 obtain ⟨h2,g2⟩:=h.set a b
 have c2:=h2.cell hb
 have f2:=h2.free b
 obtain ⟨h3,g3⟩:=h2.set b a
 have H3:=hide h3
 have G3:=hide (grownBy_trans g2 g3)
 clear h h2 h3 g2 g3
 go_enter Try.func80,Try.ntmps80
 go_wp2
 go_end0
 exact ⟨rfl,H3.out,G3.out⟩
end Go.Proofs.Ytghdiolnonejaaa
end
section
namespace Go.Proofs.Ytghdiolnonejaaa
open Go.RowKit
attribute [local go_sem ↓] Go.wp_at_zero Go.wp_at_succ
structure GS (w:World) (g:Nat) (x0 x1 x2:Value) (W:World):Prop where
 row:∃ vs,Row W g 24 [x0,x1,x2] ∧ Row W (g + 1) 24 vs ∧ vs.length = 3
 bel:Below w.heap.size w W
 lo:w.heap.size ≤ g
theorem GS.drew {w:World} {g:Nat} {x0 x1 x2:Value} {W:World} (h:GS w g x0 x1 x2 W):GS w g x0 x1 x2 W.drew := ⟨h.row,h.bel.drew,h.lo⟩
def cv (W:World) (a:Addr):Value := (W.cell? a).getD (.bool false)
theorem cv_some {W:World} {a:Addr} {v:Value} (h:W.cell? a = some v):W.cell? a = some (cv W a) := by unfold cv; rw [h]; rfl
theorem GS.below {w:World} {g:Nat} {x0 x1 x2:Value} {W W':World} (h:GS w g x0 x1 x2 W) (hb:Below W.heap.size W W'):GS w g x0 x1 x2 W' :=
 let ⟨vs,r1,r2,r3⟩:=h.row
 ⟨⟨vs,r1.below hb,r2.below hb,r3⟩,h.bel.trans (hb.mono h.bel.size),h.lo⟩
theorem GS.set {w:World} {g:Nat} {x0 x1 x2:Value} {W:World} (h:GS w g x0 x1 x2 W) (o:Nat) (v:Value):GS w g x0 x1 x2 (W.setCell ⟨g + 1,o,none⟩ v) :=
 let ⟨vs,r1,r2,r3⟩:=h.row
 ⟨⟨vs.set o v,r1.other (by simp) v,r2.set o v,by rw [List.length_set,r3]⟩,h.bel.setCell (by have := h.lo; simp; omega) v,h.lo⟩
theorem GS.all {w:World} {g:Nat} {x0 x1 x2:Value} {W:World} (h:GS w g x0 x1 x2 W):W.cell? ⟨g,0,none⟩ = some x0 ∧ W.cell? ⟨g,1,none⟩ = some x1 ∧ W.cell? ⟨g,2,none⟩ = some x2 ∧ W.cell? ⟨g + 1,0,none⟩ = some (cv W ⟨g + 1,0,none⟩) ∧ W.cell? ⟨g + 1,1,none⟩ = some (cv W ⟨g + 1,1,none⟩) ∧ W.cell? ⟨g + 1,2,none⟩ = some (cv W ⟨g + 1,2,none⟩) ∧ (∀ o,W.frozen? ⟨g + 1,o,none⟩ = false) ∧ GS w g x0 x1 x2 W := by
 obtain ⟨vs,r1,r2,r3⟩:=h.row
 exact ⟨r1.cell (i := 0) (by show 0 < 3; omega),r1.cell (i := 1) (by show 1 < 3; omega),r1.cell (i := 2) (by show 2 < 3; omega),cv_some (r2.cell (i := 0) (by omega)),cv_some (r2.cell (i := 1) (by omega)),cv_some (r2.cell (i := 2) (by omega)),fun o => r2.free o,h⟩
theorem GS.fin {w:World} {g:Nat} {x0 x1 x2:Value} {W:World} (h:GS w g x0 x1 x2 W) (y0 y1 y2:Value) :
 (((W.setCell ⟨g + 1,0,none⟩ y0).setCell ⟨g + 1,1,none⟩ y1).setCell ⟨g + 1,2,none⟩ y2).cell? ⟨g + 1,0,none⟩ = some y0 ∧ (((W.setCell ⟨g + 1,0,none⟩ y0).setCell ⟨g + 1,1,none⟩ y1).setCell ⟨g + 1,2,none⟩ y2).cell? ⟨g + 1,1,none⟩ = some y1 ∧ (((W.setCell ⟨g + 1,0,none⟩ y0).setCell ⟨g + 1,1,none⟩ y1).setCell ⟨g + 1,2,none⟩ y2).cell? ⟨g + 1,2,none⟩ = some y2 := by
 obtain ⟨vs,_,r2,r3⟩:=h.row
 have r:=((r2.set 0 y0).set 1 y1).set 2 y2
 obtain ⟨a,b,c,rfl⟩:∃ a b c,vs = [a,b,c] := by
  match vs,r3 with
  | [a,b,c],_ => exact ⟨a,b,c,rfl⟩
 exact ⟨r.cell (i := 0) (by simp),r.cell (i := 1) (by simp),r.cell (i := 2) (by simp)⟩
theorem GS.start (w:World) (x0 x1 x2 y0 y1 y2:Value):GS w w.heap.size x0 x1 x2 ((w.alloc (.cells #[x0,x1,x2] 24)).alloc (.cells #[y0,y1,y2] 24)) := by
 refine ⟨⟨[y0,y1,y2],Row.alloc (Row.new w _ [x0,x1,x2]) _,?_,rfl⟩,((Below.refl _ _).alloc (Nat.le_refl _) _).alloc (by simp) _,Nat.le_refl _⟩
 have:=Row.new (w.alloc (.cells #[x0,x1,x2] 24)) 24 [y0,y1,y2]
 simpa using this
theorem IntsAt.alloc {w:World} {A:Option Addr} {n:Nat} {zs:List Int} (h:IntsAt w A n zs) (o:Obj):IntsAt (w.alloc o) A n zs := h.keep ((Below.refl _ _).alloc (Nat.le_refl _) o)
theorem IntsAt.drew {w:World} {A:Option Addr} {n:Nat} {zs:List Int} (h:IntsAt w A n zs):IntsAt w.drew A n zs := h
theorem owns_pos {w:World} {base:Nat} {e:TypeId} {A:Option Addr} {n c:Nat} {xs:List Value} (hn:0 < n) (h:w.ownsRow base e 1 (.slice A n c) n xs):∃ g,A = some ⟨g,0,none⟩ ∧ base ≤ g ∧ g < w.heap.size := by
 rcases h.2 with ⟨_,h0⟩ | ⟨g,cap,cur,h1,h2,h3,_⟩
 ·omega
 ·injection h1 with h1
  exact ⟨g,h1,h2,lt_of_heap h3⟩
theorem own_keep {w w':World} {base base':Nat} {e:TypeId} {v:Value} {n:Nat} {xs:List Value} (h:w.ownsRow base e 1 v n xs) (hb:Below w.heap.size w w') (hle:base' ≤ base):w'.ownsRow base' e 1 v n xs := by
 refine ⟨h.1,?_⟩
 rcases h.2 with hz | ⟨g,cap,cur,r1,r2,r3,r4⟩
 ·exact .inl hz
 ·exact .inr ⟨g,cap,cur,r1,Nat.le_trans hle r2,(hb.block g (lt_of_heap r3)).trans r3,r4⟩
theorem own_set {w:World} {base:Nat} {e:TypeId} {g n c b o:Nat} {v:Value} {xs:List Value} (h:w.ownsRow base e 1 (.slice (some ⟨g,0,none⟩) n c) n xs) (hne:g ≠ b):(w.setCell ⟨b,o,none⟩ v).ownsRow base e 1 (.slice (some ⟨g,0,none⟩) n c) n xs := by
 refine ⟨h.1,?_⟩
 rcases h.2 with hz | ⟨g',cap,cur,r1,r2,r3,r4⟩
 ·exact .inl hz
 ·injection r1 with e1 e2 e3
  injection e1 with e1
  injection e1 with e1
  subst e1
  exact .inr ⟨g,cap,cur,by rw [e3],r2,(Below.heap_setCell w _ v g hne).trans r3,r4⟩
end Go.Proofs.Ytghdiolnonejaaa
end
section
namespace Go.Proofs.Ytghdiolnonejaaa
open Go.RowKit
structure Mv where
 kind:Int
 x:Int
 y:Int
 sign:Int
 over:Bool
def Mv.v (m:Mv):Value := .agg #[.int .i64 m.kind,.int .i64 m.x,.int .i64 m.y,.int .i64 m.sign,.bool m.over]
def fullC (n k:Nat):Int := if 64 < n + k then 5 else 0
def curlableC (d:Pl.Dg) (x:Int):Int := if x < 0 then (if d.lp = 0 then 6 else fullC d.n 1) else if Pl.out d x.toNat = true then fullC d.n 1 else 6
end Go.Proofs.Ytghdiolnonejaaa
end
section
namespace Go.Proofs.Ytghdiolnonejaaa
open Go.RowKit
def nilD:Value := .agg #[.slice none 0 0,.slice none 0 0,.int .i64 0]
def nilM:Value := .agg #[.int .i64 0,.int .i64 0,.int .i64 0,.int .i64 0,.bool false]
def ResErr (k:Int) (e:Ending):Prop := e = .returned (.tuple #[nilD,nilM,.int .i64 k])
structure DgT (w:World) (A:Option Addr) (B:Option Addr) (d:Pl.Dg):Prop where
 s:RowT w 3 A d.n (d.sg.map (.int .i64))
 m:RowT w 3 B (4 * d.n) ((nats d.mt).map (.int .i64))
theorem DgT.at {w:World} {A B:Option Addr} {d:Pl.Dg} (h:DgT w A B d):DgAt w A B d := ⟨h.s.row,h.m.row⟩
theorem DgT.keep {w w':World} {A B:Option Addr} {d:Pl.Dg} (h:DgT w A B d) (hb:Below w.heap.size w w'):DgT w' A B d := ⟨h.s.keep hb,h.m.keep hb⟩
theorem own_intsT {w:World} {base:Nat} {e:TypeId} {A:Option Addr} {n c:Nat} {zs:List Int} (h:w.ownsRow base e 1 (.slice A n c) n (zs.map (.int .i64))):RowT w e A n (zs.map (.int .i64)) := by
 have hl:=h.1
 refine ⟨by simpa using hl,fun hn => ?_⟩
 rcases h.2 with ⟨_,h2⟩ | ⟨g,cap,cur,h1,_,h3,_,_,_,h7⟩
 ·omega
 ·injection h1 with h1 _ _
  refine ⟨g,0,cur,(0,0),h1,h3,fun j u hu => ?_⟩
  rw [Nat.zero_add,← Array.getElem?_toList]
  have h9:=hu
  rw [← h7,List.getElem?_take] at h9
  split at h9
  ·exact h9
  ·exact absurd h9 (by simp)
theorem OwnN.intsT {w:World} {base g n c:Nat} {l:List Nat} (h:OwnN w base g n c l):RowT w 3 (some ⟨g,0,none⟩) n ((nats l).map (.int .i64)) := by
 refine own_intsT (base := base) (e := 3) (c := c) ?_
 unfold OwnN at h
 unfold nats
 rw [List.map_map]
 exact h
def ResOk (r:Pl.Dg) (mv:Mv) (e:Ending) (w':World):Prop :=
 ∃ (A B:Option Addr) (c1 c2:Nat),e = .returned (.tuple #[.agg #[.slice A r.n c1,.slice B (4 * r.n) c2,.int .i64 r.lp],mv.v,.int .i64 0]) ∧ DgT w' A B r
theorem fin8 {W:World} {gd gm:Nat} {vs us:List Value} (h1:Row W gd 24 vs) (h2:Row W gm 37 us) (l1:vs.length = 3) (l2:us.length = 5) (hne:gd ≠ gm) (y0 y1 y2 z0 z1 z2 z3 z4:Value) :
 ((((((((W.setCell ⟨gd,0,none⟩ y0).setCell ⟨gd,1,none⟩ y1).setCell ⟨gd,2,none⟩ y2).setCell ⟨gm,0,none⟩ z0).setCell ⟨gm,1,none⟩ z1).setCell ⟨gm,2,none⟩ z2).setCell ⟨gm,3,none⟩ z3).setCell ⟨gm,4,none⟩ z4).cell? ⟨gd,0,none⟩ = some y0 ∧ ((((((((W.setCell ⟨gd,0,none⟩ y0).setCell ⟨gd,1,none⟩ y1).setCell ⟨gd,2,none⟩ y2).setCell ⟨gm,0,none⟩ z0).setCell ⟨gm,1,none⟩ z1).setCell ⟨gm,2,none⟩ z2).setCell ⟨gm,3,none⟩ z3).setCell ⟨gm,4,none⟩ z4).cell? ⟨gd,1,none⟩ = some y1 ∧ ((((((((W.setCell ⟨gd,0,none⟩ y0).setCell ⟨gd,1,none⟩ y1).setCell ⟨gd,2,none⟩ y2).setCell ⟨gm,0,none⟩ z0).setCell ⟨gm,1,none⟩ z1).setCell ⟨gm,2,none⟩ z2).setCell ⟨gm,3,none⟩ z3).setCell ⟨gm,4,none⟩ z4).cell? ⟨gd,2,none⟩ = some y2 ∧ ((((((((W.setCell ⟨gd,0,none⟩ y0).setCell ⟨gd,1,none⟩ y1).setCell ⟨gd,2,none⟩ y2).setCell ⟨gm,0,none⟩ z0).setCell ⟨gm,1,none⟩ z1).setCell ⟨gm,2,none⟩ z2).setCell ⟨gm,3,none⟩ z3).setCell ⟨gm,4,none⟩ z4).cell? ⟨gm,0,none⟩ = some z0 ∧ ((((((((W.setCell ⟨gd,0,none⟩ y0).setCell ⟨gd,1,none⟩ y1).setCell ⟨gd,2,none⟩ y2).setCell ⟨gm,0,none⟩ z0).setCell ⟨gm,1,none⟩ z1).setCell ⟨gm,2,none⟩ z2).setCell ⟨gm,3,none⟩ z3).setCell ⟨gm,4,none⟩ z4).cell? ⟨gm,1,none⟩ = some z1 ∧ ((((((((W.setCell ⟨gd,0,none⟩ y0).setCell ⟨gd,1,none⟩ y1).setCell ⟨gd,2,none⟩ y2).setCell ⟨gm,0,none⟩ z0).setCell ⟨gm,1,none⟩ z1).setCell ⟨gm,2,none⟩ z2).setCell ⟨gm,3,none⟩ z3).setCell ⟨gm,4,none⟩ z4).cell? ⟨gm,2,none⟩ = some z2 ∧ ((((((((W.setCell ⟨gd,0,none⟩ y0).setCell ⟨gd,1,none⟩ y1).setCell ⟨gd,2,none⟩ y2).setCell ⟨gm,0,none⟩ z0).setCell ⟨gm,1,none⟩ z1).setCell ⟨gm,2,none⟩ z2).setCell ⟨gm,3,none⟩ z3).setCell ⟨gm,4,none⟩ z4).cell? ⟨gm,3,none⟩ = some z3 ∧ ((((((((W.setCell ⟨gd,0,none⟩ y0).setCell ⟨gd,1,none⟩ y1).setCell ⟨gd,2,none⟩ y2).setCell ⟨gm,0,none⟩ z0).setCell ⟨gm,1,none⟩ z1).setCell ⟨gm,2,none⟩ z2).setCell ⟨gm,3,none⟩ z3).setCell ⟨gm,4,none⟩ z4).cell? ⟨gm,4,none⟩ = some z4 := by
 obtain ⟨a,b,c,rfl⟩:∃ a b c,vs = [a,b,c] := by
  match vs,l1 with
  | [a,b,c],_ => exact ⟨a,b,c,rfl⟩
 obtain ⟨a',b',c',d',e',rfl⟩:∃ a b c d e,us = [a,b,c,d,e] := by
  match us,l2 with
  | [a,b,c,d,e],_ => exact ⟨a,b,c,d,e,rfl⟩
 have r1:=((((((((h1.set 0 y0).set 1 y1).set 2 y2).other (a := ⟨gm,0,none⟩) hne z0).other (a := ⟨gm,1,none⟩) hne z1).other (a := ⟨gm,2,none⟩) hne z2).other (a := ⟨gm,3,none⟩) hne z3).other (a := ⟨gm,4,none⟩) hne z4)
 have r2:=((((((((h2.other (a := ⟨gd,0,none⟩) (Ne.symm hne) y0).other (a := ⟨gd,1,none⟩) (Ne.symm hne) y1).other (a := ⟨gd,2,none⟩) (Ne.symm hne) y2).set 0 z0).set 1 z1).set 2 z2).set 3 z3).set 4 z4)
 exact ⟨r1.cell (i := 0) (by simp),r1.cell (i := 1) (by simp),r1.cell (i := 2) (by simp),r2.cell (i := 0) (by simp),r2.cell (i := 1) (by simp),r2.cell (i := 2) (by simp),r2.cell (i := 3) (by simp),r2.cell (i := 4) (by simp)⟩
theorem box3 {W:World} {g:Nat} {t:TypeId} {a b c:Value} (h:Row W g t [a,b,c]):W.cell? ⟨g,0,none⟩ = some a ∧ W.cell? ⟨g,1,none⟩ = some b ∧ W.cell? ⟨g,2,none⟩ = some c ∧ ∀ o,W.frozen? ⟨g,o,none⟩ = false :=
 ⟨h.cell (i := 0) (by simp),h.cell (i := 1) (by simp),h.cell (i := 2) (by simp),h.free⟩
theorem box5 {W:World} {g:Nat} {t:TypeId} {a b c d e:Value} (h:Row W g t [a,b,c,d,e]):W.cell? ⟨g,0,none⟩ = some a ∧ W.cell? ⟨g,1,none⟩ = some b ∧ W.cell? ⟨g,2,none⟩ = some c ∧ W.cell? ⟨g,3,none⟩ = some d ∧ W.cell? ⟨g,4,none⟩ = some e ∧ ∀ o,W.frozen? ⟨g,o,none⟩ = false :=
 ⟨h.cell (i := 0) (by simp),h.cell (i := 1) (by simp),h.cell (i := 2) (by simp),h.cell (i := 3) (by simp),h.cell (i := 4) (by simp),h.free⟩
theorem own_ints {w:World} {base:Nat} {e:TypeId} {g n c:Nat} {zs:List Int} (h:w.ownsRow base e 1 (.slice (some ⟨g,0,none⟩) n c) n (zs.map (.int .i64))):IntsAt w (some ⟨g,0,none⟩) n zs := by
 have hl:=h.1
 refine ⟨by simpa using hl,fun _ => ⟨g,0,rfl,fun j u hu => ?_⟩⟩
 rw [Nat.zero_add]
 have hj:j < n:=by
  have:=(List.getElem?_eq_some_iff.mp hu).1
  simp at this hl
  omega
 rw [World.ownsRow.cellAt h j (by simpa using hj)]
 exact hu
theorem OwnN.ints {w:World} {base g n c:Nat} {l:List Nat} (h:OwnN w base g n c l):IntsAt w (some ⟨g,0,none⟩) n (nats l) := by
 refine own_ints (base := base) (e := 3) (c := c) ?_
 unfold OwnN at h
 unfold nats
 rw [List.map_map]
 exact h
theorem OwnN.drew' {w W:World} {base g n c:Nat} {l:List Nat} (e:W = w.drew) (h:OwnN w base g n c l):OwnN W base g n c l := by subst e; exact h
def kI0 (n:Nat) (sg:Int) (ov:Bool):Nat := if ov then (if sg = -1 then 4 * n + 1 else 4 * n + 3) else 4 * n
def kO0 (n:Nat) (sg:Int) (ov:Bool):Nat := if ov then (if sg = -1 then 4 * n + 3 else 4 * n + 1) else 4 * n + 2
def kI1 (n:Nat) (sg:Int) (ov:Bool):Nat := if ov then 4 * n else (if sg = -1 then 4 * n + 1 else 4 * n + 3)
def kO1 (n:Nat) (sg:Int) (ov:Bool):Nat := if ov then 4 * n + 2 else (if sg = -1 then 4 * n + 3 else 4 * n + 1)
def crl (d:Pl.Dg) (x sg:Int) (ov:Bool):Pl.Dg where
 sg := d.sg ++ [sg]
 mt := if x < 0 then jn (jn (d.mt ++ List.replicate 4 0) (kO0 d.n sg ov) (kI1 d.n sg ov)) (kO1 d.n sg ov) (kI0 d.n sg ov) else jn (jn (jn (d.mt ++ List.replicate 4 0) (kO0 d.n sg ov) (kI1 d.n sg ov)) (kO1 d.n sg ov) (d.m x.toNat)) x.toNat (kI0 d.n sg ov)
 lp := if x < 0 then d.lp - 1 else d.lp
theorem crl_n (d:Pl.Dg) (x sg:Int) (ov:Bool):(crl d x sg ov).n = d.n + 1 := by unfold Pl.Dg.n crl; simp
end Go.Proofs.Ytghdiolnonejaaa
end
section
namespace Go.Proofs.Ytghdiolnonejaaa
open Go.RowKit
def ClosedPost (l:List Nat) (base g n cap a b:Nat) (w:World) (e:Ending) (w':World):Prop :=
 e = .returned (.int .i64 (if l.getD a 0 = b then 1 else 0)) ∧ OwnN w' base g n cap (if l.getD a 0 = b then l else jn l (l.getD a 0) (l.getD b 0)) ∧ w.grownBy w' (some g)
theorem grown_refl (w:World) (r:Option Nat):w.grownBy w r := ⟨rfl,rfl,rfl,Nat.le_refl _,fun _ _ _ => rfl⟩
theorem grown_drew {w W w':World} {r:Option Nat} (e:W = w.drew) (h:W.grownBy w' r):w.grownBy w' r := by subst e; exact ⟨h.os,h.tape,h.output,h.size,h.block⟩
set_option maxRecDepth 100000 in
set_option maxHeartbeats 1000000 in
theorem closed_any (base g n cap a b:Nat) (l:List Nat) (w:World) (h:OwnN w base g n cap l) (ha:a < n) (hb:b < n) (hn:n ≤ 100000) (hl:∀ k,k < n → l.getD k 0 < n) :
 Calls Try.prog 82 #[.slice (some ⟨g,0,none⟩) n cap,.int .i64 (a:Int),.int .i64 (b:Int)] w (ClosedPost l base g n cap a b w) := by
 have c1:=h.cell ha
 have c2:=h.cell hb
 have la:=hl a ha
 have lb:=hl b hb
 obtain ⟨x,hx⟩:∃ x,x = l.getD a 0 := ⟨_,rfl⟩
 obtain ⟨y,hy⟩:∃ y,y = l.getD b 0 := ⟨_,rfl⟩
 rw [← hx] at c1 la
 rw [← hy] at c2 lb
 have HH:=hide h
 have HX:=hide hx
 have HY:=hide hy
 clear h hx hy
 go_enter Try.func82,Try.ntmps82
 by_cases hxb:x = b
 ·subst hxb
  go_wp2
  go_ret
  refine ⟨ret_int ?_,?_,grown_refl _ _⟩
  ·rw [if_pos HX.out.symm]
  ·rw [if_pos HX.out.symm]; exact HH.out
 ·have t1:((x:Int) == (b:Int)) = false:=by rw [beq_eq_false_iff_ne]; omega
  have i1:(a:Int) < (n:Int):=by omega
  have i2:(b:Int) < (n:Int):=by omega
  have i3:(0:Int) ≤ (a:Int):=by omega
  have i4:(0:Int) ≤ (b:Int):=by omega
  go_wp2_with fail
  go_still_tail 9,(by kernel_rfl)
  change wpList _ _ _ _ _ w.drew
  obtain ⟨W6,hW6⟩:∃ W6:World,W6 = w.drew := ⟨_,rfl⟩
  rw [← hW6]
  have O6:=hide (OwnN.drew' hW6 HH.out)
  have HW:=hide hW6
  clear hW6 c1 c2
  go_wp2_with fail
  refine (join_any base g n cap x y l W6 O6.out la lb hn).mono ?_
  rintro e w5 ⟨rfl,own5,gr5⟩
  have OWN5:=hide own5
  have GR5:=hide gr5
  clear own5 gr5
  go_wp2_with fail
  go_ret
  have hne:¬ l.getD a 0 = b:=by rw [← HX.out]; exact hxb
  refine ⟨ret_int ?_,?_,grown_drew HW.out GR5.out⟩
  ·rw [if_neg hne]
  ·rw [if_neg hne,← HX.out,← HY.out]; exact OWN5.out
end Go.Proofs.Ytghdiolnonejaaa
end
section
namespace Go.Proofs.Ytghdiolnonejaaa
open Go.RowKit
def boxV (A B:Option Addr) (n cp q cq:Nat) (l:Value):List Value := [.slice A n cp,.slice B q cq,l]
set_option maxRecDepth 100000 in
set_option maxHeartbeats 4000000 in
theorem label_any (d:Pl.Dg) (hd:Pl.Wf d) (A B:Option Addr) (cp cq:Nat) (l:Value) (w:World) (hg:DgAt w A B d) :
 Calls Try.prog 76 #[.agg #[.slice A d.n cp,.slice B (4 * d.n) cq,l]] w fun e w' =>
  ∃ (ps:List Int) (P g:Nat),e = .returned (.tuple #[.slice (some ⟨g,0,none⟩) d.n d.n,.int .i64 (P:Int)]) ∧ Pl.LB d ps P ∧ (∀ a,a < d.n → 0 ≤ Pl.pv ps a) ∧ w.heap.size ≤ g ∧ IRow w' g ps ∧ Below w.heap.size w w' := by
 have hn:=hd.few
 have HF:=hide hd
 clear hd
 have hmk:=run_ints d.n (by omega) (w.alloc (.cells #[.slice A d.n cp,.slice B (4 * d.n) cq,l] 24))
 go_enter Try.func76,Try.ntmps76
 go_wp2
 clear hmk
 obtain ⟨W1,hW1⟩:∃ W1:World,W1 = (w.alloc (.cells #[.slice A d.n cp,.slice B (4 * d.n) cq,l] 24)).alloc (.cells (Array.replicate d.n (Value.int .i64 0)) 3) := ⟨_,rfl⟩
 have B1:=hide (show Below w.heap.size w W1 by rw [hW1]; exact ((Below.refl _ _).alloc (Nat.le_refl _) _).alloc (by simp) _)
 have X1:=hide (show Row W1 w.heap.size 24 (boxV A B d.n cp (4 * d.n) cq l) by rw [hW1]; exact (Row.new w _ _).alloc _)
 have R1:=hide (show IRow W1 (w.heap.size + 1) (List.replicate d.n 0) by
  rw [hW1]
  have:=IRow.made (w.alloc (.cells #[.slice A d.n cp,.slice B (4 * d.n) cq,l] 24)) d.n
  simpa using this)
 rw [← hW1]
 clear hW1
 go_loopg [18] d.n (fun g i wx => ∃ k:Nat,k + g = d.n ∧ i = .int .i64 k ∧ Below w.heap.size w wx ∧ Row wx w.heap.size 24 (boxV A B d.n cp (4 * d.n) cq l) ∧ IRow wx (w.heap.size + 1) (List.replicate k (-1) ++ List.replicate (d.n - k) 0))
 case atStart => exact ⟨0,by omega,rfl,B1.out,X1.out,by simpa using R1.out⟩
 case round =>
  obtain ⟨k,hkg,rfl,b2,x2,r2⟩:=hrel
  have HG:=hide hkg
  have hks:k ≤ d.n:=by omega
  clear hkg
  by_cases hlt:k < d.n
  ·have c1:=r2.cell (i := k) (by simp; omega)
   have f1:=Row.free r2 k
   have B2:=hide b2
   have X2:=hide x2
   have R2:=hide r2
   clear b2 x2 r2
   go_wp2
   go_roundg (gk - 1)
   case measure => have := HG.out; omega
   case rel =>
    refine ⟨k + 1,by have := HG.out; omega,by go_num,?_,X2.out.other (by simp) _,?_⟩
    ·exact B2.out.setCell (by simp) _
    ·have:=R2.out.set k (-1)
     rwa [Pl.fill_set hlt] at this
  ·have hkn:k = d.n:=by omega
   have B2:=hide b2
   have X2:=hide x2
   have R2:=hide (show IRow wr (w.heap.size + 1) (List.replicate d.n (-1)) by subst hkn; simpa using r2)
   clear b2 x2 r2 hkn
   go_wp2
   go_loopg [6,27] d.n (fun g p i wx => ∃ (k P:Nat) (ps:List Int),k + g = d.n ∧ i = .int .i64 k ∧ p = .int .i64 P ∧ Pl.LB d ps P ∧ (∀ a,a < k → 0 ≤ Pl.pv ps a) ∧ Below w.heap.size w wx ∧ Row wx w.heap.size 24 (boxV A B d.n cp (4 * d.n) cq l) ∧ IRow wx (w.heap.size + 1) ps)
   case atStart => exact ⟨0,0,_,by omega,rfl,rfl,Pl.LB.start d,fun a ha => absurd ha (by omega),B2.out,X2.out,R2.out⟩
   case round =>
    clear B2 X2 R2 B1 X1 R1 HG hks hlt
    obtain ⟨j,P,ps,hjg,rfl,rfl,hlb,hall,b3,x3,r3⟩:=hrel
    have HG:=hide hjg
    have HL:=hide hlb
    have HA:=hide hall
    have hjs:j ≤ d.n:=by omega
    have hlen:ps.length = d.n:=hlb.len
    have hP:=hlb.le
    have HLen:=hide hlen
    clear hjg hlb hall
    by_cases hjn:j < d.n
    ·have c1:=r3.cell (i := j) (by omega)
     have f1:=Row.free r3 j
     have B3:=hide b3
     have X3:=hide x3
     have R3:=hide r3
     clear b3 x3 r3 hlen
     by_cases hlab:0 ≤ Pl.pv ps j
     ·go_wp2
      go_roundg (gk - 1)
      case measure => have := HG.out; omega
      case rel =>
       refine ⟨j + 1,P,ps,by have := HG.out; omega,by go_num,rfl,HL.out,fun a ha => ?_,B3.out,X3.out,R3.out⟩
       by_cases e:a = j
       ·rw [e]; exact hlab
       ·exact HA.out a (by omega)
     ·have hneg:Pl.pv ps j < 0:=by omega
      have hjl:j < ps.length:=by have := HLen.out; omega
      obtain ⟨wo,rfl⟩:∃ wo:World,wo = wr := ⟨_,rfl⟩
      have hwz:w.heap.size + 2 ≤ wo.heap.size:=by have := R3.out.lt; omega
      go_wp2
      obtain ⟨W2,hW2⟩:∃ W2:World,W2 = (wo.setCell ⟨w.heap.size + 1,j,none⟩ (.int .i64 P)).alloc (.cells #[.int .i64 j] 3) := ⟨_,rfl⟩
      have B4:=hide (show Below w.heap.size w W2 by rw [hW2]; exact (B3.out.setCell (by simp) _).alloc (by simp; omega) _)
      have X4:=hide (show Row W2 w.heap.size 24 (boxV A B d.n cp (4 * d.n) cq l) by rw [hW2]; exact (X3.out.other (by simp) _).alloc _)
      have R4:=hide (show IRow W2 (w.heap.size + 1) (ps.set j P) by rw [hW2]; exact Row.alloc (R3.out.set j P) _)
      have Q4:=hide (show OwnT W2 (w.heap.size + 2) 3 (.slice (some ⟨wo.heap.size,0,none⟩) 1 1) 1 [.int .i64 j] by
       rw [hW2]
       refine ⟨rfl,wo.heap.size,0,1,#[.int .i64 j],rfl,hwz,?_,by omega,by unfold maxLen; omega,by simp,rfl⟩
       have:=heap_alloc_new (wo.setCell ⟨w.heap.size + 1,j,none⟩ (.int .i64 P)) (.cells #[.int .i64 j] 3)
       simpa using this)
      have HQ:=hide (Pl.LQ.start HL.out hjn hneg)
      have HU:=hide (Pl.unl_set hjl hneg (v := (P:Int)) (by omega))
      rw [← hW2]
      clear hW2 B3 X3 R3 c1 f1 hneg hlab
      go_loopg [8] (Pl.unl (ps.set j P) + 1) (fun g v wx => ∃ (p1:List Int) (qs:List Nat),g = Pl.unl p1 + qs.length ∧ Pl.unl p1 + qs.length ≤ d.n ∧ Pl.LQ d j ps P p1 qs d.n 0 ∧ OwnT wx (w.heap.size + 2) 3 v qs.length (qs.map (fun q:Nat => Value.int .i64 q)) ∧ Below w.heap.size w wx ∧ Row wx w.heap.size 24 (boxV A B d.n cp (4 * d.n) cq l) ∧ IRow wx (w.heap.size + 1) p1)
      case atStart => exact ⟨_,[j],rfl,by have h1 := HU.out; have h2:Pl.unl ps ≤ ps.length := List.countP_le_length; have h3 := HLen.out; simp only [List.length_singleton]; omega,HQ.out,Q4.out,B4.out,X4.out,R4.out⟩
      case round =>
       clear B4 X4 R4 Q4 HQ HU
       obtain ⟨p1,qs,hgk,hgn,hlq,hown,b5,x5,r5⟩:=hrel
       have HGN:=hide hgn
       have HGK:=hide hgk
       have HQ:=hide hlq
       have B5:=hide b5
       have X5:=hide x5
       have R5:=hide r5
       clear hgk hgn hlq b5 x5 r5
       cases qs with
       | nil =>
         obtain ⟨g0,off,cap,rfl,_,_,_,_,_⟩:=hown.cells
         have HD:=hide (Pl.LQ.done HF.out HQ.out)
         simp only [List.length_nil]
         go_wp2
         go_roundg (d.n - (j + 1))
         case measure => have := HG.out; omega
         case rel =>
          refine ⟨j + 1,P + 1,p1,by omega,by go_num,by go_num,HD.out.1,fun a ha => ?_,B5.out,X5.out,R5.out⟩
          by_cases e:a = j
          ·rw [e]; exact HD.out.2.2
          ·exact HD.out.2.1 a (by omega) (HA.out a (by omega))
       | cons q qs =>
         have hqn:q < d.n:=(HQ.out.wait q (by simp)).1
         have HQP:=hide ((HQ.out.wait q (by simp)).2)
         have hown':=hown
         obtain ⟨g0,off,cap,rfl,hg0,hg1,hcl,hcm,hcells⟩:=hown'.cells
         have cq0:wr.cell? ⟨g0,off,none⟩ = some (.int .i64 (q:Int)):=by
          have:=hcells 0 (.int .i64 (q:Int)) rfl
          simpa using this
         rw [List.length_cons] at hown hcl
         rw [List.map_cons] at hown
         have HO:=hide hown
         simp only [List.length_cons]
         unfold maxLen at hcm
         clear hown hcells
         obtain ⟨wo,rfl⟩:∃ wo:World,wo = wr := ⟨_,rfl⟩
         have HP:=hide (HQ.out.pop rfl)
         by_cases hcap:cap = 1
         case' pos =>
          have Q6:=hide (HO.out.tail0 hcap)
          have hq0:qs.length = 0:=by omega
          have HQ0:=hide hq0
          go_wp2
          have HC:=hide hcap
          clear hq0 hcap
         case' neg =>
          have Q6:=hide (show OwnT wo (w.heap.size + 2) 3 (.slice (some ⟨g0,off + 1,none⟩) qs.length (cap - 1)) qs.length (qs.map (fun q:Nat => Value.int .i64 q)) from HO.out.tail)
          go_wp2
         all_goals
          clear HO cq0
          go_loopg [8,49] 4 (fun g v i wx => ∃ (p2:List Int) (qs2:List Nat) (s:Nat),s + g = 4 ∧ i = .int .i64 s ∧ Pl.unl p2 + qs2.length = Pl.unl p1 + qs.length ∧ Pl.LQ d j ps P p2 qs2 q s ∧ Pl.pv p2 q = P ∧ OwnT wx (w.heap.size + 2) 3 v qs2.length (qs2.map (fun q:Nat => Value.int .i64 q)) ∧ Below w.heap.size w wx ∧ Row wx w.heap.size 24 (boxV A B d.n cp (4 * d.n) cq l) ∧ IRow wx (w.heap.size + 1) p2)
          case atStart =>
           refine ⟨p1,qs,0,rfl,rfl,rfl,HP.out,HQP.out,?_,B5.out,X5.out,R5.out⟩
           first
            | exact Q6.out
            | (have h6 := Q6.out; rw [HQ0.out,HC.out] at h6; rw [HQ0.out]; exact h6)
          case round =>
           clear B5 X5 R5 HP HQP Q6
           obtain ⟨p2,qs2,s,hsg,rfl,hum,hlq2,hpq,hown2,b6,x6,r6⟩:=hrel
           have HSG:=hide hsg
           have HUM:=hide hum
           have HQ2:=hide hlq2
           have HPQ:=hide hpq
           have HO2:=hide hown2
           have hs4:s ≤ 4:=by omega
           have HL2:=hide hlq2.len
           obtain ⟨g2,off2,cap2,rfl,hg20,hg21,hcl2,hcm2,_⟩:=hown2.cells
           unfold maxLen at hcm2
           clear hsg hum hlq2 hpq hown2
           by_cases hs:s < 4
           ·have hi:4 * q + s < 4 * d.n:=by omega
            obtain ⟨bb,bo,rfl,hmc⟩:=mate_at hg.m hi
            have hmc':=cell_below hmc b6
            have hnb:=Pl.nb_lt HF.out hqn hs
            have hml:=HF.out.lt _ hi
            have hnl:Pl.nb d q s < p2.length:=by have := HL2.out; omega
            have c7:=r6.cell hnl
            have f7:=Row.free r6 (Pl.nb d q s)
            have B6:=hide b6
            have X6:=hide x6
            have R6:=hide r6
            have x7:=x6.cell (i := 1) (by show 1 < 3; omega)
            have x7':wr.cell? ⟨w.heap.size,1,none⟩ = some (.slice (some ⟨bb,bo,none⟩) (4 * d.n) cq):=x7
            unfold Pl.nb at c7 f7
            clear b6 x6 r6 x7 hmc
            by_cases hneg:Pl.pv p2 (d.m (4 * q + s) / 4) < 0
            ·obtain ⟨wq,rfl⟩:∃ wq:World,wq = wr := ⟨_,rfl⟩
             have hq65:qs2.length ≤ 1000:=by
              have h1:=HUM.out
              have h2:=HGN.out
              rw [List.length_cons] at h2
              omega
             obtain ⟨i0,hi0,hz0,hz1,hz2⟩:=info_parts intInfo
             have hwz2:w.heap.size + 2 ≤ wq.heap.size:=by have := R6.out.lt; omega
             have HC1:=hide (show ((wq.setCell ⟨w.heap.size + 1,d.m (4 * q + s) / 4,none⟩ (.int .i64 P)).alloc (.cells #[.int .i64 ((d.m (4 * q + s):Int) / 4)] 3)).cell? ((⟨wq.heap.size,0,none⟩:Addr).add 0) = some (.int .i64 ((d.m (4 * q + s):Int) / 4)) by
              have h8:=Lib.cell_of_heap (heap_alloc_new (wq.setCell ⟨w.heap.size + 1,d.m (4 * q + s) / 4,none⟩ (.int .i64 P)) (.cells #[.int .i64 ((d.m (4 * q + s):Int) / 4)] 3)) 0
              simpa [Addr.add] using h8)
             go_wp2_with (at_builtin; refine wpList_append_tail _ rfl _ _ 22 rfl (w.heap.size + 2) 3 i0 (.int .i64 0) 8 Try.underlying22 hi0 hz0 hz1 hz2 rfl (.slice (some ⟨g2,off2,none⟩) qs2.length cap2) qs2.length (qs2.map (fun q:Nat => Value.int .i64 q)) (by rfl) (OwnT.below (OwnT.keep HO2.out (w' := wq.setCell ⟨w.heap.size + 1,d.m (4 * q + s) / 4,none⟩ (.int .i64 P)) (fun g h1 h2 h3 => Below.heap_setCell _ _ _ _ (by simp; omega))) ((Below.refl _ _).alloc (Nat.le_refl _) _)) ⟨wq.heap.size,0,none⟩ 1 (.int .i64 ((d.m (4 * q + s):Int) / 4)) (by rfl) HC1.out rfl (by unfold maxLen; omega) (by omega) (by simp; omega) ?_; intro v7 w7 own7 grow7)
             have hne2:(Value.slice (some ⟨g2,off2,none⟩) qs2.length cap2).ownBlock = some g2:=rfl
             rw [hne2] at grow7
             go_roundg (gk - 1)
             case measure => have := HSG.out; omega
             case rel =>
              have hu:=Pl.unl_set (ps := p2) (i := Pl.nb d q s) (by have := HL2.out; omega) hneg (v := (P:Int)) (by omega)
              refine ⟨p2.set (Pl.nb d q s) P,qs2 ++ [Pl.nb d q s],s + 1,by have := HSG.out; omega,by go_num,?_,HQ2.out.push HF.out hqn HPQ.out hs hneg,?_,?_,?_,?_,?_⟩
              ·have:=HUM.out; rw [List.length_append,List.length_singleton]; omega
              ·rw [Pl.pv_set (by have := HL2.out; omega)]; split; rfl; exact HPQ.out
              ·rw [List.length_append,List.length_singleton,List.map_append]
               have e9:(Value.int .i64 ((Pl.nb d q s:Nat):Int)) = Value.int .i64 ((d.m (4 * q + s):Int) / 4):=by
                congr 1
               rw [List.map_cons,List.map_nil,e9]
               exact own7
              ·exact (Below.alloc (B6.out.setCell (by simp) _) (by simp; omega) _).grown grow7 (by simp; omega) (fun k hk => by injection hk with hk; omega)
              ·exact Row.grown ((X6.out.other (by simp) _).alloc _) grow7 (by intro e; injection e with e; omega)
              ·exact Row.grown (Row.alloc (R6.out.set _ P) _) grow7 (by intro e; injection e with e; omega)
            ·go_wp2
             go_roundg (gk - 1)
             case measure => have := HSG.out; omega
             case rel =>
              exact ⟨p2,qs2,s + 1,by have := HSG.out; omega,by go_num,HUM.out,HQ2.out.skip (by unfold Pl.nb; omega),HPQ.out,HO2.out,B6.out,X6.out,R6.out⟩
           ·have hs4':s = 4:=by omega
            have B6:=hide b6
            have X6:=hide x6
            have R6:=hide r6
            clear b6 x6 r6
            go_wp2
            go_roundg (Pl.unl p1 + qs.length)
            case measure => have := HGK.out; rw [List.length_cons] at this; omega
            case rel =>
             exact ⟨p2,qs2,HUM.out.symm,by have h8 := HUM.out; have h9 := HGN.out; rw [List.length_cons] at h9; omega,by have h7 := HQ2.out; rw [hs4'] at h7; exact h7.rest,HO2.out,B6.out,X6.out,R6.out⟩
    ·have hjn':j = d.n:=by omega
     have B3:=hide b3
     have R3:=hide r3
     have hwz3:w.heap.size + 1 < wr.heap.size:=r3.lt
     clear b3 x3 r3 hlen
     go_wp2
     go_ret2
     exact ⟨ps,P,w.heap.size + 1,rfl,HL.out,fun a ha => HA.out a (by omega),by omega,R3.out,B3.out⟩
theorem label_m (d:Pl.Dg) (hd:Pl.Wf d) (A B:Option Addr) (cp cq m:Nat) (l:Value) (w:World) (hm:m = 4 * d.n) (hg:DgAt w A B d) :
 Calls Try.prog 76 #[.agg #[.slice A d.n cp,.slice B m cq,l]] w fun e w' =>
  ∃ (ps:List Int) (P g:Nat),e = .returned (.tuple #[.slice (some ⟨g,0,none⟩) d.n d.n,.int .i64 (P:Int)]) ∧ Pl.LB d ps P ∧ (∀ a,a < d.n → 0 ≤ Pl.pv ps a) ∧ w.heap.size ≤ g ∧ IRow w' g ps ∧ Below w.heap.size w w' := by
 subst hm; exact label_any d hd A B cp cq l w hg
end Go.Proofs.Ytghdiolnonejaaa
end
section
namespace Go.Proofs.Ytghdiolnonejaaa
open Go.RowKit
set_option maxRecDepth 100000 in
set_option maxHeartbeats 4000000 in
theorem spherical_any (d:Pl.Dg) (hd:Pl.Wf d) (A B:Option Addr) (cp cq:Nat) (l:Value) (w:World) (hl:l = .int .i64 d.lp) (hg:DgAt w A B d) :
 Calls Try.prog 47 #[.agg #[.slice A d.n cp,.slice B (4 * d.n) cq,l]] w fun e w' => e = .returned (.bool (Pl.vb (Pl.Rule d))) ∧ Below w.heap.size w w' := by
 subst hl
 have hn:=hd.few
 have HF:=hide hd
 clear hd
 obtain ⟨m,hm⟩:∃ m,m = 4 * d.n := ⟨_,rfl⟩
 rw [← hm]
 have HM:=hide hm
 have hm6:m ≤ 256:=by omega
 clear hm
 go_enter Try.func47,Try.ntmps47
 go_wp2_with fail
 have b0:Below w.heap.size w (w.alloc (.cells #[.slice A d.n cp,.slice B m cq,.int .i64 d.lp] 24)):=(Below.refl _ _).alloc (Nat.le_refl _) _
 have x0:Row (w.alloc (.cells #[.slice A d.n cp,.slice B m cq,.int .i64 d.lp] 24)) w.heap.size 24 (boxV A B d.n cp m cq (.int .i64 d.lp)):=Row.new w _ _
 refine (label_m d HF.out A B cp cq m _ _ HM.out (hg.keep b0)).mono ?_
 rintro e w1 ⟨ps,P,g,rfl,hlb,hall,hgb,hrow,hb1⟩
 have X1:=hide (x0.below hb1)
 have B1:=hide (b0.trans (hb1.mono (by simp)))
 have hPn:=hlb.le
 have HLB:=hide hlb
 have HALL:=hide hall
 have HLen:=hide hlb.len
 have R1:=hide hrow
 have hg0:w.heap.size + 1 ≤ g:=by simpa using hgb
 have hg1:g < w1.heap.size:=hrow.lt
 clear b0 x0 hb1 hlb hall hrow hgb
 have hmk:=run_ints P (by omega) w1
 go_wp2
 clear hmk
 obtain ⟨W2,hW2⟩:∃ W2:World,W2 = w1.alloc (.cells (Array.replicate P (Value.int .i64 0)) 3) := ⟨_,rfl⟩
 have B2:=hide (show Below w.heap.size w W2 by rw [hW2]; exact B1.out.alloc (by omega) _)
 have X2:=hide (show Row W2 w.heap.size 24 (boxV A B d.n cp m cq (.int .i64 d.lp)) by rw [hW2]; exact X1.out.alloc _)
 have R2:=hide (show IRow W2 g ps by rw [hW2]; exact Row.alloc R1.out _)
 have E2:=hide (show IRow W2 w1.heap.size (List.replicate P 0) by rw [hW2]; exact IRow.made w1 P)
 rw [← hW2]
 clear hW2 B1 X1 R1
 generalize w1.heap.size = eb at hg1 E2 ⊢
 go_loopg [22] d.n (fun g' i wx => ∃ (k:Nat) (es:List Int),k + g' = d.n ∧ i = .int .i64 k ∧ Pl.Ex d ps es P k 0 ∧ Below w.heap.size w wx ∧ Row wx w.heap.size 24 (boxV A B d.n cp m cq (.int .i64 d.lp)) ∧ IRow wx g ps ∧ IRow wx eb es)
 case atStart => exact ⟨0,_,by omega,rfl,Pl.Ex.start d ps P,B2.out,X2.out,R2.out,E2.out⟩
 case round =>
  clear B2 X2 R2 E2
  obtain ⟨k,es,hkg,rfl,hex,b3,x3,r3,e3⟩:=hrel
  have HG:=hide hkg
  have HE:=hide hex
  have hks:k ≤ d.n:=by omega
  have hel:=hex.1
  have HEL:=hide hel
  clear hkg hex
  by_cases hlt:k < d.n
  ·obtain ⟨q,hq⟩:∃ q:Nat,Pl.pv ps k = q := ⟨(Pl.pv ps k).toNat,by have := HALL.out k hlt; omega⟩
   have hqP:q < P:=by have := (HLB.out.lo k hlt).2; omega
   have c1:=r3.cell (i := k) (by have := HLen.out; omega)
   rw [hq] at c1
   have c2:=e3.cell (i := q) (by omega)
   have f2:=Row.free e3 q
   have hlo:-1000 ≤ Pl.pv es q ∧ Pl.pv es q ≤ 1000:=by
    have h1:=HE.out.2 q hqP
    have h2:Pl.nf d ps q 0 = 0:=rfl
    have h3:Pl.nv ps q k ≤ k:=Pl.cnt_top _ k
    omega
   have HQ:=hide hq
   have B3:=hide b3
   have X3:=hide x3
   have R3:=hide r3
   have E3:=hide e3
   clear hq b3 x3 r3 e3 hel
   go_wp2
   go_roundg (gk - 1)
   case measure => have := HG.out; omega
   case rel =>
    refine ⟨k + 1,_,by have := HG.out; omega,by go_num,HE.out.less hqP HQ.out,B3.out.setCell (by simp; omega) _,X3.out.other (by simp; omega) _,Row.other R3.out (by simp; omega) _,E3.out.set q (Pl.pv es q - 1)⟩
  ·have hkn:k = d.n:=by omega
   have HE':=hide (show Pl.Ex d ps es P d.n 0 by have := HE.out; rw [hkn] at this; exact this)
   have hmk2:=run_bools m (by omega) wr
   have B3:=hide b3
   have X3:=hide x3
   have R3:=hide r3
   have E3:=hide e3
   have x3c:wr.cell? ⟨w.heap.size,1,none⟩ = some (.slice B m cq):=x3.cell (i := 1) (by show 1 < 3; omega)
   have ewz:eb < wr.heap.size:=e3.lt
   have x3d:(wr.alloc (.cells (Array.replicate m (Value.bool false)) 4)).cell? ⟨w.heap.size,1,none⟩ = some (.slice B m cq):=(x3.alloc _).cell (i := 1) (by show 1 < 3; omega)
   clear b3 x3 r3 e3 hkn HE hel
   go_wp2
   clear hmk2 x3c x3d
   obtain ⟨W4,hW4⟩:∃ W4:World,W4 = wr.alloc (.cells (Array.replicate m (Value.bool false)) 4) := ⟨_,rfl⟩
   have B4:=hide (show Below w.heap.size w W4 by rw [hW4]; exact B3.out.alloc (by omega) _)
   have X4:=hide (show Row W4 w.heap.size 24 (boxV A B d.n cp m cq (.int .i64 d.lp)) by rw [hW4]; exact X3.out.alloc _)
   have R4:=hide (show IRow W4 g ps by rw [hW4]; exact Row.alloc R3.out _)
   have E4:=hide (show IRow W4 eb es by rw [hW4]; exact Row.alloc E3.out _)
   have S4:=hide (show BRow W4 wr.heap.size (List.replicate (4 * d.n) false) by rw [hW4,← HM.out]; exact BRow.made wr m)
   rw [← hW4]
   clear hW4 B3 X3 R3 E3
   generalize wr.heap.size = sb at ewz S4 ⊢
   go_loopg [40] m (fun g' i wx => ∃ (k:Nat) (es:List Int) (bs:List Bool),k + g' = m ∧ i = .int .i64 k ∧ Pl.Ex d ps es P d.n k ∧ Pl.SQ d k bs ∧ Below w.heap.size w wx ∧ Row wx w.heap.size 24 (boxV A B d.n cp m cq (.int .i64 d.lp)) ∧ IRow wx g ps ∧ IRow wx eb es ∧ BRow wx sb bs)
   case atStart => exact ⟨0,es,_,by omega,rfl,HE'.out,Pl.SQ.start d,B4.out,X4.out,R4.out,E4.out,S4.out⟩
   case round =>
    clear B4 X4 R4 E4 S4 HG HEL HE'
    obtain ⟨j,e5,bs,hjg,rfl,hex,hsq,b6,x6,r6,e6,s6⟩:=hrel
    have HG:=hide hjg
    have HE:=hide hex
    have HS:=hide hsq
    have hjs:j ≤ m:=by omega
    have HEL:=hide hex.1
    have HSL:=hide hsq.len
    clear hjg hex hsq
    by_cases hjm:j < m
    ·have hj4:j < 4 * d.n:=by have := HM.out; omega
     have c1:=s6.cell (i := j) (by have := HSL.out; omega)
     by_cases hseen:Pl.gb bs j = true
     ·have c1':wr.cell? ⟨sb,j,none⟩ = some (.bool true):=by rw [c1]; exact congrArg (fun b => some (Value.bool b)) hseen
      have B6:=hide b6
      have X6:=hide x6
      have R6:=hide r6
      have E6:=hide e6
      have S6:=hide s6
      have HSE:=hide (HS.out.seen HF.out hj4 hseen)
      clear c1 b6 x6 r6 e6 s6 hseen
      go_wp2
      go_roundg (gk - 1)
      case measure => have := HG.out; omega
      case rel => exact ⟨j + 1,e5,bs,by have := HG.out; omega,by go_num,HE.out.same HSE.out.2,HSE.out.1,B6.out,X6.out,R6.out,E6.out,S6.out⟩
     ·have hseen':Pl.gb bs j = false:=by simpa using hseen
      have c1':wr.cell? ⟨sb,j,none⟩ = some (.bool false):=by rw [c1]; exact congrArg (fun b => some (Value.bool b)) hseen'
      have HSE:=hide (HS.out.enter HF.out hj4 hseen')
      have hj4':j / 4 < d.n:=by omega
      obtain ⟨q,hq⟩:∃ q:Nat,Pl.pv ps (j / 4) = q := ⟨(Pl.pv ps (j / 4)).toNat,by have := HALL.out (j / 4) hj4'; omega⟩
      have hqP:q < P:=by have := (HLB.out.lo (j / 4) hj4').2; omega
      have c2:=r6.cell (i := j / 4) (by have := HLen.out; omega)
      rw [hq] at c2
      have c3:=e6.cell (i := q) (by have := HEL.out; omega)
      have f3:=Row.free e6 q
      have hlo:-1000 ≤ Pl.pv e5 q ∧ Pl.pv e5 q ≤ 1000:=by
       have h1:=HE.out.2 q hqP
       have h2:Pl.nf d ps q j ≤ j:=Pl.cnt_top _ j
       have h3:Pl.nv ps q d.n ≤ d.n:=Pl.cnt_top _ d.n
       omega
      have HQ:=hide hq
      have B6:=hide b6
      have X6:=hide x6
      have R6:=hide r6
      have E6:=hide e6
      have S6:=hide s6
      obtain ⟨wo,rfl⟩:∃ wo:World,wo = wr := ⟨_,rfl⟩
      clear c1 b6 x6 r6 e6 s6 hseen hseen' hq
      go_wp2
      obtain ⟨W5,hW5⟩:∃ W5:World,W5 = wo.setCell ⟨eb,q,none⟩ (.int .i64 (Pl.pv e5 q + 1)) := ⟨_,rfl⟩
      have B7:=hide (show Below w.heap.size w W5 by rw [hW5]; exact B6.out.setCell (by simp; omega) _)
      have X7:=hide (show Row W5 w.heap.size 24 (boxV A B d.n cp m cq (.int .i64 d.lp)) by rw [hW5]; exact X6.out.other (by simp; omega) _)
      have R7:=hide (show IRow W5 g ps by rw [hW5]; exact Row.other R6.out (by simp; omega) _)
      have E7:=hide (show IRow W5 eb (e5.set q (Pl.pv e5 q + 1)) by rw [hW5]; exact E6.out.set q _)
      have S7:=hide (show BRow W5 sb bs by rw [hW5]; exact Row.other S6.out (by simp; omega) _)
      rw [← hW5]
      clear hW5 B6 X6 R6 E6 S6 c1' c2 c3 f3
      go_loopg [10] (Pl.uns bs) (fun g' v wx => ∃ (i:Nat) (b8:List Bool),g' = Pl.uns b8 ∧ v = .int .i64 (Pl.it (Pl.nx d) i j:Nat) ∧ Pl.SI d j i b8 ∧ Below w.heap.size w wx ∧ Row wx w.heap.size 24 (boxV A B d.n cp m cq (.int .i64 d.lp)) ∧ IRow wx g ps ∧ IRow wx eb (e5.set q (Pl.pv e5 q + 1)) ∧ BRow wx sb b8)
      case atStart => exact ⟨0,bs,rfl,rfl,HSE.out.1,B7.out,X7.out,R7.out,E7.out,S7.out⟩
      case round =>
       clear B7 X7 R7 E7 S7
       obtain ⟨i,b8,hgk,rfl,hsi,b9,x9,r9,e9,s9⟩:=hrel
       have HGK:=hide hgk
       have HSI:=hide hsi
       have HSZ:=hide hsi.len
       have hcur4:=hsi.lt HF.out
       clear hgk hsi
       obtain ⟨cur,hcur⟩:∃ cur,cur = Pl.it (Pl.nx d) i j := ⟨_,rfl⟩
       rw [← hcur] at hcur4 ⊢
       have HC:=hide hcur
       clear hcur
       have hcm:cur < m:=by have := HM.out; omega
       have c1:=s9.cell (i := cur) (by have := HSZ.out; omega)
       have f1:=Row.free s9 cur
       by_cases hseen:Pl.gb b8 cur = true
       ·have c1':wr.cell? ⟨sb,cur,none⟩ = some (.bool true):=by rw [c1]; exact congrArg (fun b => some (Value.bool b)) hseen
        have HD:=hide (HSI.out.done HF.out (by rw [← HC.out]; exact hseen))
        have B9:=hide b9
        have X9:=hide x9
        have R9:=hide r9
        have E9:=hide e9
        have S9:=hide s9
        clear c1 f1 b9 x9 r9 e9 s9 hseen
        go_wp2
        go_roundg (m - (j + 1))
        case measure => have := HG.out; omega
        case rel => exact ⟨j + 1,_,b8,by omega,by go_num,HE.out.more hqP HQ.out HSE.out.2,HD.out,B9.out,X9.out,R9.out,E9.out,S9.out⟩
       ·have hseen':Pl.gb b8 cur = false:=by simpa using hseen
        have c1':wr.cell? ⟨sb,cur,none⟩ = some (.bool false):=by rw [c1]; exact congrArg (fun b => some (Value.bool b)) hseen'
        obtain ⟨bb,bo,rfl,hmc⟩:=mate_at hg.m hcur4
        have hml:=HF.out.lt _ hcur4
        have b10:Below w.heap.size w (wr.setCell ⟨sb,cur,none⟩ (.bool true)):=b9.setCell (by simp; omega) _
        have c2:=cell_below hmc b10
        have x10:Row (wr.setCell ⟨sb,cur,none⟩ (.bool true)) w.heap.size 24 (boxV A (some ⟨bb,bo,none⟩) d.n cp m cq (.int .i64 d.lp)):=x9.other (by simp; omega) _
        have c3:(wr.setCell ⟨sb,cur,none⟩ (.bool true)).cell? ⟨w.heap.size,1,none⟩ = some (.slice (some ⟨bb,bo,none⟩) m cq):=x10.cell (i := 1) (by show 1 < 3; omega)
        have B9:=hide b10
        have X9:=hide x10
        have R9:=hide (show IRow (wr.setCell ⟨sb,cur,none⟩ (.bool true)) g ps from Row.other r9 (by simp; omega) _)
        have E9:=hide (show IRow (wr.setCell ⟨sb,cur,none⟩ (.bool true)) eb (e5.set q (Pl.pv e5 q + 1)) from Row.other e9 (by simp; omega) _)
        have S9:=hide (s9.set cur true)
        have HU:=hide (Pl.uns_set (by have := HSZ.out; omega) hseen')
        clear c1 b10 x10 b9 x9 r9 e9 s9 hseen hseen' hmc
        go_wp2_with fail
        refine (turn_back _ _ (by omega)).mono ?_
        rintro e w9 ⟨rfl,rfl⟩
        go_wp2
        go_roundg (gk - 1)
        case measure => have h1 := HGK.out; have h2 := HU.out; omega
        case rel => exact ⟨i + 1,b8.set cur true,by have h1 := HGK.out; have h2 := HU.out; omega,by rw [HC.out]; rfl,by have := HSI.out.step HF.out; rw [← HC.out] at this; exact this,B9.out,X9.out,R9.out,E9.out,S9.out⟩
    ·have hjm':j = 4 * d.n:=by have := HM.out; omega
     have HE':=hide (show Pl.Ex d ps e5 P d.n (4 * d.n) by have := HE.out; rw [hjm'] at this; exact this)
     have HR:=hide (HE'.out.rule HF.out HLB.out HALL.out)
     have B6:=hide b6
     have E6:=hide e6
     clear b6 x6 r6 e6 s6 hjm' HE
     go_wp2
     go_loopg [75] P (fun g' i wx => ∃ k:Nat,k + g' = P ∧ i = .int .i64 k ∧ (∀ p,p < k → Pl.pv e5 p = 2) ∧ Below w.heap.size w wx ∧ IRow wx eb e5)
     case atStart => exact ⟨0,by omega,rfl,fun p hp => absurd hp (by omega),B6.out,E6.out⟩
     case round =>
      clear B6 E6
      obtain ⟨k,hkg,rfl,hall2,b7,e7⟩:=hrel
      have HGG:=hide hkg
      have HA2:=hide hall2
      have hkP:k ≤ P:=by omega
      clear hkg hall2
      by_cases hlt:k < P
      ·have c1:=e7.cell (i := k) (by have := HEL.out; omega)
       have B7:=hide b7
       have E7:=hide e7
       clear b7 e7
       by_cases h2:Pl.pv e5 k = 2
       ·have H2:=hide h2
        rw [h2] at c1
        clear h2
        go_wp2
        go_roundg (gk - 1)
        case measure => have := HGG.out; omega
        case rel =>
         refine ⟨k + 1,by have := HGG.out; omega,by go_num,fun p hp => ?_,B7.out,E7.out⟩
         by_cases e:p = k
         ·rw [e]; exact H2.out
         ·exact HA2.out p (by omega)
       ·have hb2:(Pl.pv e5 k != 2) = true:=by rw [bne_iff_ne]; exact h2
        have H2:=hide h2
        clear h2
        go_wp2
        go_ret
        exact ⟨ret_bool (Pl.vb_false (fun hr => H2.out (HR.out.2 hr k hlt))).symm,B7.out⟩
      ·have hkP':k = P:=by omega
       have B7:=hide b7
       clear b7 e7
       go_wp2
       go_ret
       exact ⟨ret_bool (Pl.vb_true (HR.out.1 (fun p hp => HA2.out p (by omega)))).symm,B7.out⟩
theorem spherical_n (d:Pl.Dg) (hd:Pl.Wf d) (A B:Option Addr) (n q cp cq:Nat) (l:Value) (w:World) (e1:n = d.n) (e2:q = 4 * d.n) (hl:l = .int .i64 d.lp) (hg:DgAt w A B d) :
 Calls Try.prog 47 #[.agg #[.slice A n cp,.slice B q cq,l]] w fun e w' => e = .returned (.bool (Pl.vb (Pl.Rule d))) ∧ Below w.heap.size w w' := by
 subst e1; subst e2; exact spherical_any d hd A B cp cq l w hl hg
end Go.Proofs.Ytghdiolnonejaaa
end
section
namespace Go.Proofs.Ytghdiolnonejaaa
open Go.RowKit
theorem out2_i (d:Pl.Dg) (A B:Option Addr) (n cp q cq:Nat) (l:Value) (h:Int) (w:World) (e:n = d.n) (hh:0 ≤ h ∧ h < 4 * (n:Int)) (hn:n ≤ 1000) (hs:IntsAt w A n d.sg) :
 Calls Try.prog 129 #[.agg #[.slice A n cp,.slice B q cq,l],.int .i64 h] w fun e w' => e = .returned (.bool (Pl.out d h.toNat)) ∧ Below w.heap.size w w' := by
 obtain ⟨k,rfl⟩:=Int.eq_ofNat_of_zero_le hh.1
 exact out2_n d A B n cp q cq l k w e (by omega) hn hs
theorem opp_i (h:Int) (w:World) (hh:0 ≤ h ∧ h ≤ 1000000) :
 Calls Try.prog 100 #[.int .i64 h] w fun e w' => e = .returned (.int .i64 (Pl.tn h.toNat 2:Nat)) ∧ w' = w := by
 obtain ⟨k,rfl⟩:=Int.eq_ofNat_of_zero_le hh.1
 refine (opposite_any k w (by omega)).mono ?_
 rintro e w' ⟨rfl,rfl⟩
 exact ⟨rfl,rfl⟩
theorem below_drewN {B:Nat} {a w:World} (h:Below B a w) (n:Nat):Below B a (w.drewN n) := ⟨h.os,h.tape,h.output,h.size,h.block⟩
def kk (d:Pl.Dg) (c:Nat):Nat := if d.m (4 * c + 2) / 4 = c then 4 * c + 2 else if d.s c = 1 then 4 * c + 1 else 4 * c + 3
def isK (d:Pl.Dg) (c:Nat):Prop := d.m (kk d c) / 4 = c
def kinkE (d:Pl.Dg) (c:Nat) (b:Bool):Ending := if b then .returned (.tuple #[.int .i64 (Pl.tn (kk d c) 2:Nat),.int .i64 (Pl.tn (d.m (kk d c)) 2:Nat),.bool true]) else .returned (.tuple #[.int .i64 0,.int .i64 0,.bool false])
def KinkPost (d:Pl.Dg) (c:Nat) (w:World) (e:Ending) (w':World):Prop := e = kinkE d c (Pl.vb (isK d c)) ∧ Below w.heap.size w w'
theorem kink_at {d:Pl.Dg} {c o:Nat} {w:World} {e:Ending} {w':World} (h:kk d c = o) (hm:d.m o / 4 = c) (he:e = .returned (.tuple #[.int .i64 (Pl.tn o 2:Nat),.int .i64 (Pl.tn (d.m o) 2:Nat),.bool true])) (hb:Below w.heap.size w w'):KinkPost d c w e w' := by
 refine ⟨?_,hb⟩
 rw [Pl.vb_true (show isK d c by unfold isK; rw [h]; exact hm)]
 unfold kinkE
 rw [if_pos rfl,h,he]
theorem kink_no {d:Pl.Dg} {c:Nat} {w:World} {e:Ending} {w':World} (h:¬ d.m (kk d c) / 4 = c) (he:e = .returned (.tuple #[.int .i64 0,.int .i64 0,.bool false])) (hb:Below w.heap.size w w'):KinkPost d c w e w' := by
 refine ⟨?_,hb⟩
 rw [Pl.vb_false (show ¬ isK d c from h)]
 exact he
set_option maxRecDepth 100000 in
set_option maxHeartbeats 2000000 in
theorem kink_any (d:Pl.Dg) (hd:Pl.Wf d) (A B:Option Addr) (cp cq m c:Nat) (w:World) (hm:m = 4 * d.n) (hg:DgAt w A B d) (hc:c < d.n) :
 Calls Try.prog 81 #[.agg #[.slice A d.n cp,.slice B m cq,.int .i64 d.lp],.int .i64 (c:Int)] w (KinkPost d c w) := by
 have hn:=hd.few
 have HM:=hide hm
 clear hm
 have hmm:m ≤ 256:=by have := HM.out; omega
 have HG:=hide hg
 clear hg
 have x0:Row (w.alloc (.cells #[.slice A d.n cp,.slice B m cq,.int .i64 d.lp] 24)) w.heap.size 24 [.slice A d.n cp,.slice B m cq,.int .i64 d.lp]:=Row.new w _ _
 have X0:=hide x0
 have B0:=hide (show Below w.heap.size w (w.alloc (.cells #[.slice A d.n cp,.slice B m cq,.int .i64 d.lp] 24)) from (Below.refl _ _).alloc (Nat.le_refl _) _)
 clear x0
 go_enter Try.func81,Try.ntmps81
 go_wp2
 go_loopg [11] 3 (fun g i wx => ∃ k:Nat,k + g = 3 ∧ i = .int .i64 k ∧ (0 < k → ¬ d.m (4 * c + 2) / 4 = c) ∧ (1 < k → d.s c = 1 → ¬ d.m (4 * c + 1) / 4 = c) ∧ (2 < k → d.s c = -1 → ¬ d.m (4 * c + 3) / 4 = c) ∧ Below w.heap.size w wx ∧ Row wx w.heap.size 24 [.slice A d.n cp,.slice B m cq,.int .i64 d.lp])
 case atStart => exact ⟨0,rfl,rfl,fun h => absurd h (by omega),fun h => absurd h (by omega),fun h => absurd h (by omega),B0.out,X0.out⟩
 case round =>
  clear B0 X0
  obtain ⟨k,hkg,rfl,q0,q1,q2,b1,x1⟩:=hrel
  have HG0:=hide hkg
  have Q0:=hide q0
  have Q1:=hide q1
  have Q2:=hide q2
  have B1:=hide b1
  have X1:=hide x1
  have hk4:k = 0 ∨ k = 1 ∨ k = 2 ∨ k = 3:=by omega
  obtain ⟨e0,e1,e2,e3⟩:=box3 x1
  have i0:∀ W,(Instr.index 134 (.agg #[.int .i64 2,.int .i64 1,.int .i64 3]) (.int .i64 0)).run Try.prog W = .ok (.int .i64 2) W:=fun _ => by kernel_rfl
  have i1:∀ W,(Instr.index 134 (.agg #[.int .i64 2,.int .i64 1,.int .i64 3]) (.int .i64 1)).run Try.prog W = .ok (.int .i64 1) W:=fun _ => by kernel_rfl
  have i2:∀ W,(Instr.index 134 (.agg #[.int .i64 2,.int .i64 1,.int .i64 3]) (.int .i64 2)).run Try.prog W = .ok (.int .i64 3) W:=fun _ => by kernel_rfl
  clear hkg q0 q1 q2 b1 x1
  rcases hk4 with rfl | rfl | rfl | rfl
  ·go_wp2_with fail
   refine (out2_i d A B d.n cp m cq (.int .i64 d.lp) _ _ rfl (by omega) (by omega) (HG.out.s.keep B1.out)).mono ?_
   rintro e w2 ⟨rfl,hb2⟩
   have B2:=hide (B1.out.trans (hb2.mono B1.out.size))
   have X2:=hide (X1.out.below hb2)
   have HG2:=hide (HG.out.keep B2.out)
   have et:(4 * (c:Int) + 2).toNat = 4 * c + 2:=by omega
   rw [et]
   clear et hb2
   obtain ⟨b,o,rfl,cm⟩:=mate_at HG2.out.m (k := 4 * c + 2) (by omega)
   obtain ⟨f0,f1,f2,f3⟩:=box3 X2.out
   have g1:(0:Int) ≤ 4 * (c:Int) + 2:=by omega
   have g2:4 * (c:Int) + 2 < (m:Int):=by have := HM.out; omega
   have lt:=hd.lt (4 * c + 2) (by omega)
   obtain ⟨x,hx⟩:∃ x,x = d.m (4 * c + 2) := ⟨_,rfl⟩
   rw [← hx] at cm lt
   have HX:=hide hx
   clear hx
   have hO:Pl.out d (4 * c + 2) = true:=out_two (by omega)
   rw [hO]
   clear hO
   by_cases hk:x / 4 = c
   ·have t1:((x:Int) / 4 == (c:Int)) = true:=by rw [beq_iff_eq]; omega
    have HK:=hide hk
    clear hk
    go_wp2_with fail
    go_quiet ((go_at_call 100; exact Calls.quiet_of_same (opp_i _ _ (by omega))))
    go_wp2
    go_ret3
    have hkk:kk d c = 4 * c + 2:=by unfold kk; rw [if_pos (by rw [← HX.out]; exact HK.out)]
    refine kink_at hkk (by rw [← HX.out]; exact HK.out) ?_ (below_drewN B2.out _)
    rw [← HX.out,show (4 * (c:Int) + 2).toNat = 4 * c + 2 by omega,Int.toNat_natCast]
    rfl
   ·have t1:((x:Int) / 4 == (c:Int)) = false:=by rw [beq_eq_false_iff_ne]; omega
    have HK:=hide hk
    clear hk
    go_wp2
    go_roundg 2
    case measure => have := HG0.out; omega
    case rel => exact ⟨1,rfl,by go_num,fun _ => by rw [← HX.out]; exact HK.out,fun h => absurd h (by omega),fun h => absurd h (by omega),B2.out,X2.out⟩
  ·go_wp2_with fail
   refine (out2_i d A B d.n cp m cq (.int .i64 d.lp) _ _ rfl (by omega) (by omega) (HG.out.s.keep B1.out)).mono ?_
   rintro e w2 ⟨rfl,hb2⟩
   have B2:=hide (B1.out.trans (hb2.mono B1.out.size))
   have X2:=hide (X1.out.below hb2)
   have HG2:=hide (HG.out.keep B2.out)
   have et:(4 * (c:Int) + 1).toNat = 4 * c + 1:=by omega
   rw [et]
   clear et hb2
   obtain ⟨b,o,rfl,cm⟩:=mate_at HG2.out.m (k := 4 * c + 1) (by omega)
   obtain ⟨f0,f1,f2,f3⟩:=box3 X2.out
   have g1:(0:Int) ≤ 4 * (c:Int) + 1:=by omega
   have g2:4 * (c:Int) + 1 < (m:Int):=by have := HM.out; omega
   have lt:=hd.lt (4 * c + 1) (by omega)
   obtain ⟨x,hx⟩:∃ x,x = d.m (4 * c + 1) := ⟨_,rfl⟩
   rw [← hx] at cm lt
   have HX:=hide hx
   clear hx
   by_cases hs1:d.s c = 1
   ·have S1:=hide hs1
    clear hs1
    have hO:Pl.out d (4 * c + 1) = true:=by rw [out_one (by omega),show (4 * c + 1) / 4 = c by omega,S1.out]; rfl
    rw [hO]
    clear hO
    by_cases hk:x / 4 = c
    ·have t1:((x:Int) / 4 == (c:Int)) = true:=by rw [beq_iff_eq]; omega
     have HK:=hide hk
     clear hk
     go_wp2_with fail
     go_quiet ((go_at_call 100; exact Calls.quiet_of_same (opp_i _ _ (by omega))))
     go_wp2
     go_ret3
     have hkk:kk d c = 4 * c + 1:=by unfold kk; rw [if_neg (Q0.out (by omega)),if_pos S1.out]
     refine kink_at hkk (by rw [← HX.out]; exact HK.out) ?_ (below_drewN B2.out _)
     rw [← HX.out,show (4 * (c:Int) + 1).toNat = 4 * c + 1 by omega,Int.toNat_natCast]
     rfl
    ·have t1:((x:Int) / 4 == (c:Int)) = false:=by rw [beq_eq_false_iff_ne]; omega
     have HK:=hide hk
     clear hk
     go_wp2
     go_roundg 1
     case measure => have := HG0.out; omega
     case rel => exact ⟨2,rfl,by go_num,fun _ => Q0.out (by omega),fun _ _ => by rw [← HX.out]; exact HK.out,fun h => absurd h (by omega),B2.out,X2.out⟩
   ·have S1:=hide hs1
    clear hs1
    have hO:Pl.out d (4 * c + 1) = false:=by rw [out_one (by omega),show (4 * c + 1) / 4 = c by omega,beq_eq_false_iff_ne]; exact S1.out
    rw [hO]
    clear hO
    go_wp2
    go_roundg 1
    case measure => have := HG0.out; omega
    case rel => exact ⟨2,rfl,by go_num,fun _ => Q0.out (by omega),fun _ h => absurd h S1.out,fun h => absurd h (by omega),B2.out,X2.out⟩
  ·go_wp2_with fail
   refine (out2_i d A B d.n cp m cq (.int .i64 d.lp) _ _ rfl (by omega) (by omega) (HG.out.s.keep B1.out)).mono ?_
   rintro e w2 ⟨rfl,hb2⟩
   have B2:=hide (B1.out.trans (hb2.mono B1.out.size))
   have X2:=hide (X1.out.below hb2)
   have HG2:=hide (HG.out.keep B2.out)
   have et:(4 * (c:Int) + 3).toNat = 4 * c + 3:=by omega
   rw [et]
   clear et hb2
   obtain ⟨b,o,rfl,cm⟩:=mate_at HG2.out.m (k := 4 * c + 3) (by omega)
   obtain ⟨f0,f1,f2,f3⟩:=box3 X2.out
   have g1:(0:Int) ≤ 4 * (c:Int) + 3:=by omega
   have g2:4 * (c:Int) + 3 < (m:Int):=by have := HM.out; omega
   have lt:=hd.lt (4 * c + 3) (by omega)
   obtain ⟨x,hx⟩:∃ x,x = d.m (4 * c + 3) := ⟨_,rfl⟩
   rw [← hx] at cm lt
   have HX:=hide hx
   clear hx
   by_cases hs1:d.s c = -1
   ·have S1:=hide hs1
    have S2:=hide (show ¬ d.s c = 1 by omega)
    clear hs1
    have hO:Pl.out d (4 * c + 3) = true:=by rw [out_three (by omega),show (4 * c + 3) / 4 = c by omega,S1.out]; rfl
    rw [hO]
    clear hO
    by_cases hk:x / 4 = c
    ·have t1:((x:Int) / 4 == (c:Int)) = true:=by rw [beq_iff_eq]; omega
     have HK:=hide hk
     clear hk
     go_wp2_with fail
     go_quiet ((go_at_call 100; exact Calls.quiet_of_same (opp_i _ _ (by omega))))
     go_wp2
     go_ret3
     have hkk:kk d c = 4 * c + 3:=by unfold kk; rw [if_neg (Q0.out (by omega)),if_neg S2.out]
     refine kink_at hkk (by rw [← HX.out]; exact HK.out) ?_ (below_drewN B2.out _)
     rw [← HX.out,show (4 * (c:Int) + 3).toNat = 4 * c + 3 by omega,Int.toNat_natCast]
     rfl
    ·have t1:((x:Int) / 4 == (c:Int)) = false:=by rw [beq_eq_false_iff_ne]; omega
     have HK:=hide hk
     clear hk
     go_wp2
     go_roundg 0
     case measure => have := HG0.out; omega
     case rel => exact ⟨3,rfl,by go_num,fun _ => Q0.out (by omega),fun _ => Q1.out (by omega),fun _ _ => by rw [← HX.out]; exact HK.out,B2.out,X2.out⟩
   ·have S1:=hide hs1
    clear hs1
    have hO:Pl.out d (4 * c + 3) = false:=by rw [out_three (by omega),show (4 * c + 3) / 4 = c by omega,beq_eq_false_iff_ne]; exact S1.out
    rw [hO]
    clear hO
    go_wp2
    go_roundg 0
    case measure => have := HG0.out; omega
    case rel => exact ⟨3,rfl,by go_num,fun _ => Q0.out (by omega),fun _ => Q1.out (by omega),fun _ h => absurd h S1.out,B2.out,X2.out⟩
  ·go_wp2
   go_ret3
   refine kink_no ?_ rfl B1.out
   unfold kk
   have h0:=Q0.out (by omega)
   rw [if_neg h0]
   rcases hd.sign c hc with h | h
   ·rw [if_pos h]; exact Q1.out (by omega) h
   ·rw [if_neg (by omega)]; exact Q2.out (by omega) h
end Go.Proofs.Ytghdiolnonejaaa
end
section
namespace Go.Proofs.Ytghdiolnonejaaa
open Go Go.RowKit
def plc (c f s:Nat):Nat := 4 * c + (s + 4 - f) % 4
def fwd (d:Pl.Dg) (x:Int):Bool := if x = -1 then true else if 0 ≤ x then Pl.out d x.toNat else false
end Go.Proofs.Ytghdiolnonejaaa
end
section
namespace Go.Proofs.Ytghdiolnonejaaa
open Go.RowKit
def inR (n:Nat) (m:Mv):Prop :=
 if m.kind = 1 then -1 ≤ m.x ∧ m.x < 4 * n ∧ m.y = 0 ∧ (m.sign = 1 ∨ m.sign = -1)
 else if m.kind = 2 then 0 ≤ m.x ∧ m.x < n ∧ m.y = 0 ∧ m.sign = 0 ∧ m.over = false
 else if m.kind = 4 then 0 ≤ m.x ∧ m.x < m.y ∧ m.y < n ∧ m.sign = 0 ∧ m.over = false
 else if m.kind = 5 then 0 ≤ m.x ∧ m.x < 4 * n ∧ m.y = 0 ∧ m.sign = 0 ∧ m.over = false
 else -2 ≤ m.x ∧ m.x < 4 * n ∧ -2 ≤ m.y ∧ m.y < 4 * n ∧ (if m.x ≠ m.y then m.sign = 0 else if m.x < 0 then m.sign = 0 ∨ m.sign = 1 else m.sign = 1 ∨ m.sign = -1)
def InPost (n:Nat) (m:Mv) (w:World) (e:Ending) (w':World):Prop := e = .returned (.bool (Pl.vb (inR n m))) ∧ Below w.heap.size w w'
theorem in_ret {p:Prop} {b:Bool} (h:b = true ↔ p):Ending.returned (.bool b) = .returned (.bool (Pl.vb p)) := by
 refine ret_bool ?_
 rw [Bool.eq_iff_iff,Pl.vb_iff,h]
set_option maxRecDepth 100000 in
set_option maxHeartbeats 1000000 in
theorem inRange_2 (n:Nat) (x y s:Int) (o:Bool) (w:World) (hn:n ≤ 1000) :
 Calls Try.prog 48 #[.int .i64 (n:Int),(Mv.mk 2 x y s o).v] w (InPost n ⟨2,x,y,s,o⟩ w) := by
 unfold Mv.v
 by_cases hs:s = 0
 ·subst hs
  cases o
  all_goals
   go_enter Try.func48,Try.ntmps48
   go_wp2
   all_goals
    go_ret
    refine ⟨in_ret ?_,(Below.refl _ _).alloc (Nat.le_refl _) _⟩
    unfold inR
    (try simp only [beq_iff_eq,beq_eq_false_iff_ne,ne_eq,bne_iff_ne,decide_eq_true_eq,decide_eq_false_iff_not] at *); (first | (simp; done) | (simp; omega) | omega | (simp_all; done) | (simp_all; omega))
 ·have t0:(s == 0) = false:=by simpa using hs
  go_enter Try.func48,Try.ntmps48
  go_wp2
  all_goals
   go_ret
   refine ⟨in_ret ?_,(Below.refl _ _).alloc (Nat.le_refl _) _⟩
   unfold inR
   (try simp only [beq_iff_eq,beq_eq_false_iff_ne,ne_eq,bne_iff_ne,decide_eq_true_eq,decide_eq_false_iff_not] at *); (first | (simp; done) | (simp; omega) | omega | (simp_all; done) | (simp_all; omega))
set_option maxRecDepth 100000 in
set_option maxHeartbeats 1000000 in
theorem inRange_4 (n:Nat) (x y s:Int) (o:Bool) (w:World) (hn:n ≤ 1000) :
 Calls Try.prog 48 #[.int .i64 (n:Int),(Mv.mk 4 x y s o).v] w (InPost n ⟨4,x,y,s,o⟩ w) := by
 unfold Mv.v
 by_cases hs:s = 0
 ·subst hs
  cases o
  all_goals
   go_enter Try.func48,Try.ntmps48
   go_wp2
   all_goals
    go_ret
    refine ⟨in_ret ?_,(Below.refl _ _).alloc (Nat.le_refl _) _⟩
    unfold inR
    (try simp only [beq_iff_eq,beq_eq_false_iff_ne,ne_eq,bne_iff_ne,decide_eq_true_eq,decide_eq_false_iff_not] at *); (first | (simp; done) | (simp; omega) | omega | (simp_all; done) | (simp_all; omega))
 ·have t0:(s == 0) = false:=by simpa using hs
  go_enter Try.func48,Try.ntmps48
  go_wp2
  all_goals
   go_ret
   refine ⟨in_ret ?_,(Below.refl _ _).alloc (Nat.le_refl _) _⟩
   unfold inR
   (try simp only [beq_iff_eq,beq_eq_false_iff_ne,ne_eq,bne_iff_ne,decide_eq_true_eq,decide_eq_false_iff_not] at *); (first | (simp; done) | (simp; omega) | omega | (simp_all; done) | (simp_all; omega))
end Go.Proofs.Ytghdiolnonejaaa
end
section
namespace Go.Proofs.Ytghdiolnonejaaa
open Go.RowKit
theorem jn_get {l:List Nat} {a b:Nat} (ha:a < l.length) (hb:b < l.length) (k:Nat):(jn l a b).getD k 0 = if k = b then a else if k = a then b else l.getD k 0 := by
 unfold jn
 rw [List.getD_eq_getElem?_getD,List.getElem?_set]
 by_cases h1:b = k
 ·rw [if_pos h1,if_pos (by rw [List.length_set]; omega),if_pos h1.symm]; rfl
 ·rw [if_neg h1,if_neg (fun e => h1 e.symm),List.getElem?_set]
  by_cases h2:a = k
  ·rw [if_pos h2,if_pos (by omega),if_pos h2.symm]; rfl
  ·rw [if_neg h2,if_neg (fun e => h2 e.symm),List.getD_eq_getElem?_getD]
def clo (l:List Nat) (a b:Nat):List Nat := if l.getD a 0 = b then l else jn l (l.getD a 0) (l.getD b 0)
def clk (l:List Nat) (a b:Nat):Nat := if l.getD a 0 = b then 1 else 0
theorem clo_len (l:List Nat) (a b:Nat):(clo l a b).length = l.length := by unfold clo; split <;> simp [jn]
theorem clo_get {l:List Nat} {a b:Nat} (ha:l.getD a 0 < l.length) (hb:l.getD b 0 < l.length) (k:Nat):(clo l a b).getD k 0 = if l.getD a 0 = b then l.getD k 0 else if k = l.getD b 0 then l.getD a 0 else if k = l.getD a 0 then l.getD b 0 else l.getD k 0 := by
 unfold clo
 split
 ·rfl
 ·exact jn_get ha hb k
theorem clo_lt {l:List Nat} {a b:Nat} (h:∀ k,k < l.length → l.getD k 0 < l.length) (ha:a < l.length) (hb:b < l.length):∀ k,k < (clo l a b).length → (clo l a b).getD k 0 < (clo l a b).length := by
 intro k hk
 rw [clo_len] at hk ⊢
 rw [clo_get (h a ha) (h b hb)]
 have:=h a ha
 have:=h b hb
 have:=h k hk
 split
 ·exact h k hk
 ·split
  ·exact h a ha
  ·split
   ·exact h b hb
   ·exact h k hk
theorem clo_g {l:List Nat} {a b k:Nat} (la:l.getD a 0 < l.length) (lb:l.getD b 0 < l.length) (ia:l.getD (l.getD a 0) 0 = a) (ib:l.getD (l.getD b 0) 0 = b) (ik:l.getD (l.getD k 0) 0 = k) (hab:a ≠ b) (k1:k ≠ a) (k2:k ≠ b) :
 (clo l a b).getD k 0 = if l.getD k 0 = a then l.getD b 0 else if l.getD k 0 = b then l.getD a 0 else l.getD k 0 := by
 have t1:k = l.getD a 0 ↔ l.getD k 0 = a:=⟨fun h => by rw [h,ia],fun h => by rw [← h,ik]⟩
 have t2:k = l.getD b 0 ↔ l.getD k 0 = b:=⟨fun h => by rw [h,ib],fun h => by rw [← h,ik]⟩
 have t3:l.getD a 0 = b → l.getD b 0 = a:=fun h => by rw [← h,ia]
 rw [clo_get la lb]
 by_cases q1:l.getD k 0 = a
 ·have e1:=t1.2 q1
  rw [if_pos q1,if_neg (fun h => k2 (e1.trans h)),if_neg (fun h => hab (by rw [← q1,t2.1 h])),if_pos e1]
 ·rw [if_neg q1]
  by_cases q2:l.getD k 0 = b
  ·have e2:=t2.2 q2
   rw [if_pos q2,if_neg (fun h => k1 (e2.trans (t3 h))),if_pos e2]
  ·rw [if_neg q2]
   split
   ·rfl
   ·rw [if_neg (fun h => q2 (t2.1 h)),if_neg (fun h => q1 (t1.1 h))]
theorem clo_j {l:List Nat} (hlt:∀ k,k < l.length → l.getD k 0 < l.length) (hinv:∀ k,k < l.length → l.getD (l.getD k 0) 0 = k) {a b k:Nat} (ha:a < l.length) (hb:b < l.length) (hab:a ≠ b) (hk:k < l.length) (k1:k ≠ a) (k2:k ≠ b) :
 (clo l a b).getD k 0 = if l.getD k 0 = a then l.getD b 0 else if l.getD k 0 = b then l.getD a 0 else l.getD k 0 :=
 clo_g (hlt a ha) (hlt b hb) (hinv a ha) (hinv b hb) (hinv k hk) hab k1 k2
theorem clo_inv {l:List Nat} (hlt:∀ k,k < l.length → l.getD k 0 < l.length) (hinv:∀ k,k < l.length → l.getD (l.getD k 0) 0 = k) (hne:∀ k,k < l.length → l.getD k 0 ≠ k) {a b k:Nat} (ha:a < l.length) (hb:b < l.length) (hab:a ≠ b) (hk:k < l.length) (k1:k ≠ a) (k2:k ≠ b) :
 (clo l a b).getD k 0 ≠ a ∧ (clo l a b).getD k 0 ≠ b ∧ (clo l a b).getD k 0 < l.length ∧ (clo l a b).getD ((clo l a b).getD k 0) 0 = k := by
 have ia:=hinv a ha
 have ib:=hinv b hb
 have ik:=hinv k hk
 have J:=fun x hx x1 x2 => clo_j (k := x) hlt hinv ha hb hab hx x1 x2
 by_cases q1:l.getD k 0 = a
 ·have e:(clo l a b).getD k 0 = l.getD b 0:=by rw [J k hk k1 k2,if_pos q1]
  have n2:=hne b hb
  have n1:l.getD b 0 ≠ a:=fun h => k2 (by rw [← ik,q1,← h,ib])
  rw [e]
  refine ⟨n1,n2,hlt b hb,?_⟩
  rw [J _ (hlt b hb) n1 n2,ib,if_neg (fun h => hab h.symm),if_pos rfl,← q1,ik]
 ·by_cases q2:l.getD k 0 = b
  ·have e:(clo l a b).getD k 0 = l.getD a 0:=by rw [J k hk k1 k2,if_neg q1,if_pos q2]
   have n1:=hne a ha
   have n2:l.getD a 0 ≠ b:=fun h => k1 (by rw [← ik,q2,← h,ia])
   rw [e]
   refine ⟨n1,n2,hlt a ha,?_⟩
   rw [J _ (hlt a ha) n1 n2,ia,if_pos rfl,← q2,ik]
  ·have e:(clo l a b).getD k 0 = l.getD k 0:=by rw [J k hk k1 k2,if_neg q1,if_neg q2]
   rw [e]
   refine ⟨q1,q2,hlt k hk,?_⟩
   rw [J _ (hlt k hk) q1 q2,ik,if_neg k1,if_neg k2]
theorem clo_two {l:List Nat} (hlt:∀ k,k < l.length → l.getD k 0 < l.length) (hinv:∀ k,k < l.length → l.getD (l.getD k 0) 0 = k) (hne:∀ k,k < l.length → l.getD k 0 ≠ k) {a b c e k:Nat} (ha:a < l.length) (hb:b < l.length) (hc:c < l.length) (he:e < l.length) (hk:k < l.length)
 (d1:a ≠ b) (d2:a ≠ c) (d3:a ≠ e) (d4:b ≠ c) (d5:b ≠ e) (d6:c ≠ e) (k1:k ≠ a) (k2:k ≠ b) (k3:k ≠ c) (k4:k ≠ e) :
 (clo (clo l a b) c e).getD k 0 = if (clo l a b).getD k 0 = c then (clo l a b).getD e 0 else if (clo l a b).getD k 0 = e then (clo l a b).getD c 0 else (clo l a b).getD k 0 := by
 have I:=fun x hx x1 x2 => clo_inv (k := x) hlt hinv hne ha hb d1 hx x1 x2
 obtain ⟨_,_,c3,c4⟩:=I c hc (fun h => d2 h.symm) (fun h => d4 h.symm)
 obtain ⟨_,_,e3,e4⟩:=I e he (fun h => d3 h.symm) (fun h => d5 h.symm)
 obtain ⟨_,_,_,f4⟩:=I k hk k1 k2
 exact clo_g (by rw [clo_len]; exact c3) (by rw [clo_len]; exact e3) c4 e4 f4 d6 k3 k4
set_option maxHeartbeats 4000000 in
theorem clo_comm {l:List Nat} (hlt:∀ k,k < l.length → l.getD k 0 < l.length) (hinv:∀ k,k < l.length → l.getD (l.getD k 0) 0 = k) {a b c e:Nat} (ha:a < l.length) (hb:b < l.length) (hc:c < l.length) (he:e < l.length)
 (d1:a ≠ b) (d2:a ≠ c) (d3:a ≠ e) (d4:b ≠ c) (d5:b ≠ e) (d6:c ≠ e):clk l a b + clk (clo l a b) c e = clk l c e + clk (clo l c e) b a := by
 have e1:=clo_j hlt hinv ha hb d1 hc (fun h => d2 h.symm) (fun h => d4 h.symm)
 have e2:=clo_j hlt hinv hc he d6 hb d4 d5
 unfold clk
 rw [e1,e2]
 have sw:∀ x y,x < l.length → y < l.length → (l.getD x 0 = y ↔ l.getD y 0 = x):=fun x y hx hy => ⟨fun h => by rw [← h,hinv x hx],fun h => by rw [← h,hinv y hy]⟩
 have s1:=sw a b ha hb
 have s2:=sw a c ha hc
 have s3:=sw a e ha he
 have s4:=sw b c hb hc
 have s5:=sw b e hb he
 have s6:=sw c e hc he
 obtain ⟨A,hA⟩:∃ A,A = l.getD a 0 := ⟨_,rfl⟩
 obtain ⟨B,hB⟩:∃ A,A = l.getD b 0 := ⟨_,rfl⟩
 obtain ⟨C,hC⟩:∃ A,A = l.getD c 0 := ⟨_,rfl⟩
 obtain ⟨E,hE⟩:∃ A,A = l.getD e 0 := ⟨_,rfl⟩
 rw [← hA,← hB] at s1
 rw [← hA,← hC] at s2
 rw [← hA,← hE] at s3
 rw [← hB,← hC] at s4
 rw [← hB,← hE] at s5
 rw [← hC,← hE] at s6
 rw [← hA,← hB,← hC,← hE]
 clear hA hB hC hE
 clear e1 e2 sw hlt hinv
 by_cases q1:C = a
 ·rw [if_pos q1]
  have:=s2.2 q1
  (repeat' split) <;> omega
 ·rw [if_neg q1]
  by_cases q2:C = b
  ·rw [if_pos q2]
   have:=s4.2 q2
   (repeat' split) <;> omega
  ·rw [if_neg q2]
   (repeat' split) <;> omega
end Go.Proofs.Ytghdiolnonejaaa
end
section
namespace Go.Proofs.Ytghdiolnonejaaa
open Go.RowKit
set_option maxHeartbeats 4000000 in
theorem clo_same {l:List Nat} (hlt:∀ k,k < l.length → l.getD k 0 < l.length) (hinv:∀ k,k < l.length → l.getD (l.getD k 0) 0 = k) (hne:∀ k,k < l.length → l.getD k 0 ≠ k) {a b c e k:Nat} (ha:a < l.length) (hb:b < l.length) (hc:c < l.length) (he:e < l.length) (hk:k < l.length)
 (d1:a ≠ b) (d2:a ≠ c) (d3:a ≠ e) (d4:b ≠ c) (d5:b ≠ e) (d6:c ≠ e) (k1:k ≠ a) (k2:k ≠ b) (k3:k ≠ c) (k4:k ≠ e) :
 (clo (clo l a b) c e).getD k 0 = (clo (clo l c e) b a).getD k 0 := by
 rw [clo_two hlt hinv hne ha hb hc he hk d1 d2 d3 d4 d5 d6 k1 k2 k3 k4,clo_two hlt hinv hne hc he hb ha hk d6 (fun h => d4 h.symm) (fun h => d2 h.symm) (fun h => d5 h.symm) (fun h => d3 h.symm) (fun h => d1 h.symm) k3 k4 k2 k1]
 rw [clo_j hlt hinv ha hb d1 hk k1 k2,clo_j hlt hinv ha hb d1 hc (fun h => d2 h.symm) (fun h => d4 h.symm),clo_j hlt hinv ha hb d1 he (fun h => d3 h.symm) (fun h => d5 h.symm)]
 rw [clo_j hlt hinv hc he d6 hk k3 k4,clo_j hlt hinv hc he d6 ha d2 d3,clo_j hlt hinv hc he d6 hb d4 d5]
 have sw:∀ x y,x < l.length → y < l.length → (l.getD x 0 = y ↔ l.getD y 0 = x):=fun x y hx hy => ⟨fun h => by rw [← h,hinv x hx],fun h => by rw [← h,hinv y hy]⟩
 have s1:=sw a b ha hb
 have s2:=sw a c ha hc
 have s3:=sw a e ha he
 have s4:=sw b c hb hc
 have s5:=sw b e hb he
 have s6:=sw c e hc he
 have t1:=sw k a hk ha
 have t2:=sw k b hk hb
 have t3:=sw k c hk hc
 have t4:=sw k e hk he
 obtain ⟨A,hA⟩:∃ A,A = l.getD a 0 := ⟨_,rfl⟩
 obtain ⟨B,hB⟩:∃ A,A = l.getD b 0 := ⟨_,rfl⟩
 obtain ⟨C,hC⟩:∃ A,A = l.getD c 0 := ⟨_,rfl⟩
 obtain ⟨E,hE⟩:∃ A,A = l.getD e 0 := ⟨_,rfl⟩
 obtain ⟨K,hK⟩:∃ A,A = l.getD k 0 := ⟨_,rfl⟩
 rw [← hA,← hB] at s1
 rw [← hA,← hC] at s2
 rw [← hA,← hE] at s3
 rw [← hB,← hC] at s4
 rw [← hB,← hE] at s5
 rw [← hC,← hE] at s6
 rw [← hK,← hA] at t1
 rw [← hK,← hB] at t2
 rw [← hK,← hC] at t3
 rw [← hK,← hE] at t4
 rw [← hA,← hB,← hC,← hE,← hK]
 clear hA hB hC hE hK sw hlt hinv hne
 by_cases q1:K = a
 ·have z:=t1.1 q1
  have nB:B ≠ a:=fun h => k2 (z.symm.trans (s1.2 h))
  have nC:C ≠ a:=fun h => k3 (z.symm.trans (s2.2 h))
  have nE:E ≠ a:=fun h => k4 (z.symm.trans (s3.2 h))
  rw [q1]
  simp only [if_true,if_neg nC,if_neg nE,if_neg d1,if_neg d2,if_neg d3]
  by_cases p1:B = c
  ·rw [if_pos p1,if_pos p1,if_neg (fun h => d6 (p1.symm.trans (s5.2 h)))]
  ·rw [if_neg p1,if_neg p1]
   by_cases p2:B = e
   ·rw [if_pos p2,if_pos p2,if_neg (fun h => p1 (s4.2 h))]
   ·rw [if_neg p2,if_neg p2]
 ·by_cases q2:K = b
  ·have z:=t2.1 q2
   have nA:A ≠ b:=fun h => k1 (z.symm.trans (s1.1 h))
   have nC:C ≠ b:=fun h => k3 (z.symm.trans (s4.2 h))
   have nE:E ≠ b:=fun h => k4 (z.symm.trans (s5.2 h))
   rw [q2]
   simp only [if_true,if_neg nC,if_neg nE,if_neg (fun h => d1 h.symm:¬ b = a),if_neg d4,if_neg d5]
   by_cases p1:A = c
   ·rw [if_pos p1,if_pos p1,if_neg (fun h => d6 (p1.symm.trans (s3.2 h)))]
   ·rw [if_neg p1,if_neg p1]
    by_cases p2:A = e
    ·rw [if_pos p2,if_pos p2,if_neg (fun h => p1 (s2.2 h))]
    ·rw [if_neg p2,if_neg p2]
  ·by_cases q3:K = c
   ·have z:=t3.1 q3
    have nA:A ≠ c:=fun h => k1 (z.symm.trans (s2.1 h))
    have nB:B ≠ c:=fun h => k2 (z.symm.trans (s4.1 h))
    have nE:E ≠ c:=fun h => k4 (z.symm.trans (s6.2 h))
    rw [q3]
    simp only [if_true,if_neg nA,if_neg nB,if_neg (fun h => d2 h.symm:¬ c = a),if_neg (fun h => d4 h.symm:¬ c = b)]
    by_cases p1:E = a
    ·have p2:¬ E = b:=fun h => d1 (p1.symm.trans h)
     rw [if_pos p1,if_neg p2,if_pos p1,if_neg (fun h => by
      have h2:E = b:=s5.1 h
      omega)]
    ·rw [if_neg p1]
     by_cases p2:E = b
     ·rw [if_pos p2,if_pos p2,if_neg (fun h => p1 (s3.1 h))]
     ·rw [if_neg p2,if_neg p2,if_neg p1]
   ·by_cases q4:K = e
    ·have z:=t4.1 q4
     have nA:A ≠ e:=fun h => k1 (z.symm.trans (s3.1 h))
     have nB:B ≠ e:=fun h => k2 (z.symm.trans (s5.1 h))
     have nC:C ≠ e:=fun h => k3 (z.symm.trans (s6.1 h))
     rw [q4]
     simp only [if_true,if_neg nA,if_neg nB,if_neg (fun h => d3 h.symm:¬ e = a),if_neg (fun h => d5 h.symm:¬ e = b),if_neg (fun h => d6 h.symm:¬ e = c)]
     by_cases p1:C = a
     ·have p2:¬ C = b:=fun h => d1 (p1.symm.trans h)
      rw [if_pos p1,if_neg p2,if_pos p1,if_neg (fun h => by
       have h2:C = b:=s4.1 h
       omega)]
     ·rw [if_neg p1]
      by_cases p2:C = b
      ·rw [if_pos p2,if_pos p2,if_neg (fun h => p1 (s2.1 h))]
      ·rw [if_neg p2,if_neg p2,if_neg p1]
    ·simp only [if_neg q1,if_neg q2,if_neg q3,if_neg q4]
end Go.Proofs.Ytghdiolnonejaaa
end
section
namespace Go.Proofs.Ytghdiolnonejaaa
open Go Go.ChangeShapes Go.WideShapes Go.ChangeAt Go.RowKit Go.Deep
theorem spot_noneM {w:World} {a:Addr} {v:Value} (h:w.cell? a = some v):a = ⟨a.block,a.off,none⟩:=by
 obtain ⟨b,o,sp⟩:=a
 cases sp with
 | none => rfl
 | some s =>
   unfold World.cell? at h
   simp only at h
   split at h
   ·simp at h
   ·cases h
theorem addr_formM {w:World} {a:Addr} {v:Value} (h:w.cell? (a.add 0) = some v):∃ b o,a = ⟨b,o,none⟩:=⟨_,_,spot_noneM h⟩
section
variable {H:Type} {enc:TypeId × Value → H} {w:World} {base:Nat} {spare:Nat → Bool} {held:Bool} {fuel:Nat}
theorem ints_of_trod {v:Value} {y:DataW H × List MemPlace} (h:DataW.trod enc Try.prog w base spare held fuel 22 [v] = some y):∃ (A:Option Addr) (n c:Nat) (xs:List Int),v = .slice A n c ∧ n ≤ maxLen ∧ IntsAt w A n xs := by
 rcases open_ints Try.underlying22 Try.underlying3 (by kernel_rfl) h with ⟨h1,_⟩ | ⟨a,len,cap,zs,h1,_,hl,hm,hsl,_,hc,_⟩
 ·obtain rfl:v = .slice none 0 0 := by simpa using h1
  exact ⟨none,0,0,[],rfl,by unfold maxLen; omega,RowAt.nil w⟩
 ·obtain rfl:v = .slice (some a) len cap := by simpa using h1
  have hle:len ≤ zs.length:=by rw [hsl]; split <;> omega
  refine ⟨some a,len,cap,zs.take len,rfl,by omega,by simp; omega,fun hn => ?_⟩
  obtain ⟨b,o,rfl⟩:=addr_formM (hc 0 (by omega))
  refine ⟨b,o,rfl,fun j u hu => ?_⟩
  rw [List.getElem?_map] at hu
  obtain ⟨s,hs,rfl⟩:=Option.map_eq_some_iff.1 hu
  have hj:j < len:=by
   rcases Nat.lt_or_ge j len with h | h
   ·exact h
   ·rw [List.getElem?_eq_none (by simp; omega)] at hs; cases hs
  have:=hc j (by omega)
  rw [Addr.add_lit] at this
  rw [this]
  rw [List.getElem?_take_of_lt hj] at hs
  rw [List.getD_eq_getElem?_getD,hs]
  rfl
theorem int_of_trod {v:Value} {y:DataW H × List MemPlace} (h:DataW.trod enc Try.prog w base spare held fuel 3 [v] = some y):∃ n:Int,v = .int .i64 n ∧ -9223372036854775808 ≤ n ∧ n ≤ 9223372036854775807 := by
 obtain ⟨n,h1,_,hw⟩:=DataW.trod_int Try.underlying3 h
 obtain rfl:v = .int .i64 n := by simpa using h1
 refine ⟨n,rfl,?_⟩
 simp only [Lit.wf,Bool.and_eq_true,decide_eq_true_eq] at hw
 have h1:(IntKind.i64.min:Int) = -9223372036854775808:=by rfl
 have h2:(IntKind.i64.max:Int) = 9223372036854775807:=by rfl
 rw [h1,h2] at hw
 exact hw
set_option maxRecDepth 100000 in
theorem open_dg {r:Reach} {b0:Nat} {v:Value} {d:DataW H} {p:List MemPlace} (hval:Value.okWide Try.prog w r b0 24 v) (h:DataW.Trod enc Try.prog w base spare held 24 v d p) :
 ∃ (A B:Option Addr) (n q cp cq:Nat) (sg mt:List Int) (lp:Int),v = .agg #[.slice A n cp,.slice B q cq,.int .i64 lp] ∧ n ≤ maxLen ∧ q ≤ maxLen ∧ IntsAt w A n sg ∧ IntsAt w B q mt ∧ -9223372036854775808 ≤ lp ∧ lp ≤ 9223372036854775807 := by
 obtain ⟨cs,rfl,hsz⟩:=okWide_struct Try.underlying24 hval
 obtain ⟨fuel,hf⟩:=h
 obtain ⟨c0,c1,c2,rfl⟩:∃ c0 c1 c2,cs = #[c0,c1,c2] := by
  have h3:cs.size = 3:=hsz.trans (by kernel_rfl)
  obtain ⟨l⟩:=cs
  match l,h3 with
  | [a,b,c],_ => exact ⟨a,b,c,rfl⟩
 have hf':DataW.trod enc Try.prog w base spare held fuel 24 [c0,c1,c2] = some (d,p):=hf
 obtain ⟨xs,n',_,_,_,hxl,hfld⟩:=DataW.trod_struct Try.underlying24 hf'
 have c22:Try.prog.cellsOf 22 = 1:=by kernel_rfl
 have c3:Try.prog.cellsOf 3 = 1:=by kernel_rfl
 have g0:DataW.trod enc Try.prog w base spare held n' 22 (([c0,c1,c2].drop 0).take (Try.prog.cellsOf 22)) = xs[0]?:=hfld 0 _ rfl
 have g1:DataW.trod enc Try.prog w base spare held n' 22 (([c0,c1,c2].drop 1).take (Try.prog.cellsOf 22)) = xs[1]?:=hfld 1 _ rfl
 have g2:DataW.trod enc Try.prog w base spare held n' 3 (([c0,c1,c2].drop 2).take (Try.prog.cellsOf 3)) = xs[2]?:=hfld 2 _ rfl
 rw [c22] at g0 g1
 rw [c3] at g2
 simp only [List.drop_zero,List.drop_succ_cons,List.take_succ_cons,List.take_zero] at g0 g1 g2
 have x0:xs[0]? = some (xs[0]'(by rw [hxl]; decide)):=List.getElem?_eq_getElem _
 have x1:xs[1]? = some (xs[1]'(by rw [hxl]; decide)):=List.getElem?_eq_getElem _
 have x2:xs[2]? = some (xs[2]'(by rw [hxl]; decide)):=List.getElem?_eq_getElem _
 rw [x0] at g0
 rw [x1] at g1
 rw [x2] at g2
 obtain ⟨A,n,cp,sg,rfl,hn,hs⟩:=ints_of_trod g0
 obtain ⟨B,q,cq,mt,rfl,hq,hm⟩:=ints_of_trod g1
 obtain ⟨lp,rfl,h1,h2⟩:=int_of_trod g2
 exact ⟨A,B,n,q,cp,cq,sg,mt,lp,rfl,hn,hq,hs,hm,h1,h2⟩
end
end Go.Proofs.Ytghdiolnonejaaa
end
